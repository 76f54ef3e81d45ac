/- A program logic over heaps: the code of a function as a predicate transformer that computes,and that it is sound. The operations of a function as predicate transformers over heaps,and that these are sound. Regions of operations,in the text's order and in a drawn one,as predicate transformers over heaps,and that these are sound. Regions that draw their order and whose operations leave the heap alone. Regions that draw their order and whose operations write: whatever order is drawn. The code of a function as a predicate transformer over heaps,loops by invariants,ranges over functions by what a round does; and that it is sound. The transformer of code is sound; a function's contract out of its body. The words of the printed texts. -/
import Derived.RangeFuncLeaves
import Derived.Sort.QuietThIn
import Derived.Sort.LoopGhostIn
import Derived.Below
import Derived.KernelRfl
import Derived.WalkKit
import Derived.Laws.StructEq
import Derived.RangeFuncRecord
import Derived.RangeFuncNested
namespace Go.Proofs.YtdpaiiibndnanaaGreatDoor
open Go.Builtin (append_)
open List (getD_eq_getElem?_getD drop_drop append_nil getElem?_of_mem getElem?_drop any_eq_false mem_cons_self getElem_mem)
open Go Go.RowKit
theorem ab.{u}{α:Sort u}(a b:α):(cond false a b)=b:=rfl
theorem ae.{u}{α:Sort u}(a b:α):(cond true a b)=a:=rfl
theorem af{p:Prop}[inst:Decidable p](h:¬p):decide p=false:=decide_eq_false h
theorem ah{p:Prop}[inst:Decidable p](h:p):decide p=true:=decide_eq_true h
theorem ai.{u}{α:Type u}{l:List α}{i:Nat}(h:i<l.length):l[i]? = some l[i]:=List.getElem?_eq_getElem h
theorem aj.{u}{α:Type u}{l:List α}{i:Nat}{a:α}(h:l[i]? = some a):a∈l:=List.mem_of_getElem? h
theorem ak.{u}{α:Type u}{i:Nat}{a:α}{l:List α}:l[i]? = some a↔∃h:i<l.length,l[i]=a:=List.getElem?_eq_some_iff
theorem am.{u}{c:Prop}{h:Decidable c}(n:¬c){α:Sort u}{t e:α}:(if c then t else e)=e:=if_neg n
theorem an.{u}{c:Prop}{h:Decidable c}(n:c){α:Sort u}{t e:α}:(if c then t else e)=t:=if_pos n
theorem ao.{u}{α:Type u}{as bs:List α}:(as++bs).length=as.length+bs.length:=List.length_append
theorem aq.{u,v}{α:Type u}{β:Type v}{as:List α}(f:α → β):(List.map f as).length=as.length:=List.length_map f
theorem ar.{u}{α:Type u}{a:α}{as:List α}:(a::as).length=as.length+1:=List.length_cons
theorem au.{u}{α:Type u}{i:Nat}{l:List α}:(List.take i l).length=min i l.length:=List.length_take
theorem av.{u}{α:Type u}{i:Nat}{l:List α}(h:l.length≤i):List.take i l=l:=List.take_of_length_le h
theorem aw(n:Nat):0≤n:=Nat.zero_le n
theorem ax(n:Nat):n≤n:=Nat.le_refl n
theorem ay(a b:Bool):((a&&b)=true)=(a=true∧b=true):=Bool.and_eq_true a b
theorem az.{u}{α:Type u}{l:List α}{i:Nat}:List.take (i+1) l=List.take i l++l[i]?.toList:=List.take_add_one
theorem aA.{u}{α:Type u}{b:α}{l:List α}{a:α}:a∈b::l↔a=b∨a∈l:=List.mem_cons
theorem aB:(!true)=false:=Bool.not_true
theorem aC:(!false)=true:=Bool.not_false
theorem aD.{u}{α:Type u}(y:α){a:α}{l:List α}(h:a∈l):a∈y::l:=List.mem_cons_of_mem y h
set_option linter.unusedVariables false
set_option linter.unusedSimpArgs false
variable {base:List Deferred}
abbrev Heap:=Array Obj
abbrev FW (r:Option Nat):Fence:={ Fence.wide with round:=r }
structure fH (w w':World):Prop where
 os:w'.os=w.os
 tape:w'.tape=w.tape
 output:w'.output=w.output
theorem fH.refl (w:World):fH w w:=⟨rfl,rfl,rfl⟩
theorem fH.trans {a b c:World} (h:fH a b) (k:fH b c):fH a c:=⟨k.os.trans h.os,k.tape.trans h.tape,k.output.trans h.output⟩
structure Fr where
 s:Nat→Option Value
 m:List Nat
def Fr.put (φ:Fr) (d:Option Tmp) (v:Value):Fr:=
 match d with
 | some d=>{ s:=fun t=>bif Nat.beq t d then some v else φ.s t,m:=φ.m }
 | none=>φ
structure FA (base:List Deferred) (n:Nat) (φ:Fr) (a:Act):Prop where
 defers:a.defers=φ.m.map (fun d=>{ target:=.collected d,args:=#[] })++base
 size:a.tmps.size=n
 slots:∀ t v,φ.s t=some v→t<n→a.tmps[t]? = some v
theorem FA.put {n:Nat} {φ:Fr} {a:Act} (h:FA base n φ a) (d:Option Tmp) (v:Value):FA base n (φ.put d v) (a.put d v):=by
 cases d with
 | none=>exact h
 | some d=>
   refine ⟨h.defers,by simp [Act.put,h.size],fun t u hu ht=>?_⟩;simp only [Fr.put] at hu;simp only [Act.put];by_cases e:t=d
   · subst e;rw [show Nat.beq t t=true from Nat.beq_refl t] at hu;simp only [ae,Option.some.injEq] at hu;subst hu;rw [Array.getElem?_setIfInBounds_self];simp [h.size,ht]
   · have hb:Nat.beq t d=false:=by
      cases hh:Nat.beq t d with
      | false=>rfl
      | true=>exact absurd (Nat.eq_of_beq_eq_true hh) e
     rw [hb] at hu;simp only [ab] at hu;rw [Array.getElem?_setIfInBounds_ne (Ne.symm e)];exact h.slots t u hu ht
def ev (n:Nat) (φ:Fr):Operand→Option Value
 | .tmp t=>bif Nat.blt t n then φ.s t else none
 | .const v=>some v
 | .global g=>some (.pointer (some ⟨g,0,none⟩))
 | .func f=>some (.func (.func f) #[] #[])
theorem bg {n:Nat} {φ:Fr} {a:Act} (h:FA base n φ a) {x:Operand} {v:Value} (hx:ev n φ x=some v):a.eval x=v:=by
 cases x with
 | tmp t=>
   simp only [ev] at hx
   cases hb:Nat.blt t n with
   | false=>rw [hb] at hx; cases hx
   | true=>
     rw [hb] at hx;simp only [ae] at hx;have:=h.slots t v hx (by have:=Nat.le_of_ble_eq_true hb; omega);simp [Act.eval,Array.getD_eq_getD_getElem?,this]
 | const u=>simpa [ev,Act.eval] using hx
 | global g=>simpa [ev,Act.eval] using hx
 | func f=>simpa [ev,Act.eval] using hx
def rd (n:Nat) (φ:Fr) (x:Operand) (K:Value→Prop):Prop:=
 match ev n φ x with
 | some v=>K v
 | none=>False
theorem bw {n:Nat} {φ:Fr} {x:Operand} {K:Value→Prop} (h:rd n φ x K):∃ v,ev n φ x=some v∧K v:=by
 unfold rd at h
 cases he:ev n φ x with
 | none=>rw [he] at h; exact h.elim
 | some v=>rw [he] at h; exact ⟨v,rfl,h⟩
def yz (n:Nat) (φ:Fr):List Operand→(List Value→Prop)→Prop
 | [],K=>K []
 | x::xs,K=>rd n φ x fun v=>yz n φ xs fun vs=>K (v::vs)
theorem ee {n:Nat} {φ:Fr}:∀ {xs:List Operand} {K:List Value→Prop},yz n φ xs K→
  ∃ vs,(∀ {base:List Deferred} (a:Act),FA base n φ a→xs.map a.eval=vs)∧K vs
 | [],K,h=>⟨[],fun _ _=>rfl,h⟩
 | x::xs,K,h=>by
   obtain ⟨v,hv,h⟩:=bw h;obtain ⟨vs,hvs,h⟩:=ee h;exact ⟨v::vs,fun a ha=>by simp [bg ha hv,hvs a ha],h⟩
def bI (h:Heap) (a:Addr):Option Value:=
 match h[a.block]? with
 | some (.cells c _ _)=>if a.spot.isSome then none else c[a.off]?
 | _=>none
def gY (h:Heap) (a:Addr):Bool:=
 match h[a.block]? with
 | some (.cells _ _ (lo,hi))=>lo≤a.off&&a.off<hi
 | _=>false
def yn (h:Heap) (a:Addr) (v:Value):Heap:=
 h.modify a.block fun
  | .cells c elem frozen=>.cells (if a.spot.isSome then c else c.setIfInBounds a.off v) elem frozen
  | o=>o
theorem dU (w:World) (a:Addr):w.cell? a=bI w.heap a:=rfl
theorem mn (w:World) (a:Addr):w.frozen? a=gY w.heap a:=rfl
theorem uy (w:World) (a:Addr) (v:Value):(w.setCell a v).heap=yn w.heap a v:=rfl
def Hy (P:Program) (T:TypeId) (K:Value→Prop):Prop:=
 match P.underlying T with
 | some (.int k)=>∃ x:Int,K (.int k x)
 | some .bool=>∃ b:Bool,K (.bool b)
 | some .string=>∃ s:ByteArray,K (.string s)
 | some (.pointer _)=>∃ p:Option Addr,K (.pointer p)
 | some (.slice _)=>∃ (p:Option Addr) (l c:Nat),K (.slice p l c)
 | some (.map _ _)=>∃ m:Option Nat,K (.map m)
 | _=>∃ v:Value,K v
theorem qY {P:Program} {T:TypeId} {K:Value→Prop} (h:Hy P T K):∃ v,K v:=by
 unfold Hy at h
 split at h
 · obtain ⟨_,h⟩:=h; exact ⟨_,h⟩
 · obtain ⟨_,h⟩:=h; exact ⟨_,h⟩
 · obtain ⟨_,h⟩:=h; exact ⟨_,h⟩
 · obtain ⟨_,h⟩:=h; exact ⟨_,h⟩
 · obtain ⟨_,_,_,h⟩:=h; exact ⟨_,h⟩
 · obtain ⟨_,h⟩:=h; exact ⟨_,h⟩
 · obtain ⟨_,h⟩:=h; exact ⟨_,h⟩
def HY (P:Program):(fuel:Nat)→TypeId→List TypeId
 | 0,T=>[T]
 | d+1,T=>
   match P.underlying T with
   | some (.struct fs)=>fs.toList.flatMap fun f=>HY P d f.type
   | some (.array k e)=>(List.replicate k (HY P d e)).flatten
   | _=>[T]
def sg (P:Program):List TypeId→(List Value→Prop)→Prop
 | [],K=>K []
 | T::Ts,K=>Hy P T fun v=>sg P Ts fun vs=>K (v::vs)
theorem lv {P:Program}:∀ {Ts:List TypeId} {K:List Value→Prop},sg P Ts K→∃ vs,vs.length=Ts.length∧K vs
 | [],K,h=>⟨[],rfl,h⟩
 | T::Ts,K,h=>by
   obtain ⟨v,h⟩:=qY h;obtain ⟨vs,hl,h⟩:=lv h;exact ⟨v::vs,by simp [hl],h⟩
def FR (P:Program) (T:TypeId):Bool:=
 match P.underlying T with
 | some (.struct _)=>true
 | some (.array _ _)=>true
 | _=>false
def Hz (P:Program) (T:TypeId) (K:Value→Prop):Prop:=
 bif FR P T then sg P (HY P 8 T) (fun l=>K (.agg l.toArray)) else Hy P T K
theorem qZ {P:Program} {T:TypeId} {K:Value→Prop} (h:Hz P T K):∃ v,K v:=by
 unfold Hz at h
 cases hb:FR P T with
 | true=>rw [hb] at h; obtain ⟨l,_,h⟩:=lv h; exact ⟨_,h⟩
 | false=>rw [hb] at h; exact qY h
def DH (P:Program):List TypeId→(List Value→Prop)→Prop
 | [],K=>K []
 | T::Ts,K=>Hz P T fun v=>DH P Ts fun vs=>K (v::vs)
theorem jy {P:Program}:∀ {Ts:List TypeId} {K:List Value→Prop},DH P Ts K→∃ vs,K vs
 | [],K,h=>⟨[],h⟩
 | T::Ts,K,h=>by
   obtain ⟨v,h⟩:=qZ h;obtain ⟨vs,h⟩:=jy h;exact ⟨v::vs,h⟩
def dec (P:Program) (T:TypeId) (v:Value) (K:Value→Prop):Prop:=
 match P.underlying T with
 | some (.tuple Ts)=>DH P Ts.toList fun l=>v=.tuple l.toArray∧K (.tuple l.toArray)
 | _=>Hz P T fun u=>v=u∧K u
theorem eF {P:Program} {T:TypeId} {v:Value} {K:Value→Prop} (h:dec P T v K):K v:=by
 unfold dec at h
 split at h
 · obtain ⟨l,h1,h2⟩:=jy h; exact h1▸h2
 · obtain ⟨u,h1,h2⟩:=qZ h; exact h1▸h2
def bB (P:Program) (s:Sem Value) (h:Heap) (K:Value→Heap→Prop):Prop:=
 ∀ w:World,w.heap=h→∃ v w',s.run P w=.ok v w'∧fH w w'∧K v w'.heap
def qh (P:Program) (s:Sem Unit) (h:Heap) (K:Heap→Prop):Prop:=
 ∀ w:World,w.heap=h→∃ w',s.run P w=.ok () w'∧fH w w'∧K w'.heap
def eG (P:Program) (f:FuncId):Bool:=
 match P.funcs[f]? with
 | some fn=>fn.body.isSome && !(fn.name== "runtime.NumGoroutine")
 | none=>false
theorem gp {P:Program} {f:FuncId} (h:eG P f=true) (args:Array Value) (w:World):(callFunc f args).run P w=.ok (.enter f args) w:=by
 unfold eG at h
 unfold callFunc
 cases hf:P.funcs[f]? with
 | none=>rw [hf] at h; cases h
 | some fn=>
   rw [hf] at h;simp only [ay,Bool.not_eq_true'] at h;simp only [Sem.run_bind,run_program,Result.andThen_ok,hf,h.2]
   cases hb:fn.body with
   | none=>rw [hb] at h; simp at h
   | some c=>simp
def aE (P:Program) (f:FuncId) (args:List Value) (h:Heap) (Q:Value→Heap→Prop):Prop:=
 eG P f=true∧∀ w:World,w.heap=h→CallsIn Fence.wide 0 P f args.toArray w (fun e w'=>∃ v,e=.returned v∧Q v w'.heap∧fH w w')
def jh (P:Program) (l:Nat) (args:List Value) (h:Heap) (Q:Value→Heap→Prop):Prop:=
 ∀ w:World,w.heap=h→∃ f tmps assign body,(Instr.yield l args.toArray).run P w=.ok (.round l f tmps assign body) w∧
   RoundIn Fence.wide 0 P l f tmps assign body w (fun e w'=>∃ v,e=.returned v∧Q v w'.heap∧fH w w')
def du (P:Program) (v:Value) (args:List Value) (h:Heap) (Q:Value→Heap→Prop):Prop:=
 match v with
 | .func (.func f) first cap=>aE P f (first.toList++args++cap.toList) h Q
 | .func (.yield l) first _=>jh P l (first.toList++args) h Q
 | _=>False
theorem aE.mono {P:Program} {f:FuncId} {args:List Value} {h:Heap} {Q Q':Value→Heap→Prop} (H:aE P f args h Q) (hq:∀ v h',Q v h'→Q' v h'):aE P f args h Q':=
 ⟨H.1,fun w hw=>CallsIn.mono (H.2 w hw) fun e w' ⟨v,he,q,s⟩=>⟨v,he,hq _ _ q,s⟩⟩
theorem jh.mono {P:Program} {l:Nat} {args:List Value} {h:Heap} {Q Q':Value→Heap→Prop} (H:jh P l args h Q) (hq:∀ v h',Q v h'→Q' v h'):jh P l args h Q':=
 fun w hw=>let ⟨f,t,a,b,hr,hR⟩:=H w hw; ⟨f,t,a,b,hr,RoundIn.mono hR fun e w' ⟨v,he,q,s⟩=>⟨v,he,hq _ _ q,s⟩⟩
theorem du.mono {P:Program} {v:Value} {args:List Value} {h:Heap} {Q Q':Value→Heap→Prop} (H:du P v args h Q) (hq:∀ v h',Q v h'→Q' v h'):du P v args h Q':=by
 unfold du at *
 split at H
 · exact H.mono hq
 · exact H.mono hq
 · exact H.elim
def cf (op:BinOp) (k:IntKind) (x y:Int):Int:=
 match op with
 | .and=>k.wrap ((BitVec.ofInt k.bits x &&& BitVec.ofInt k.bits y).toNat)
 | .or=>k.wrap ((BitVec.ofInt k.bits x ||| BitVec.ofInt k.bits y).toNat)
 | .xor=>k.wrap ((BitVec.ofInt k.bits x ^^^ BitVec.ofInt k.bits y).toNat)
 | _=>k.wrap ((BitVec.ofInt k.bits x &&& ~~~BitVec.ofInt k.bits y).toNat)
def nO (k:IntKind) (x y:Int):Int:=k.wrap (x*2^(min y.toNat k.bits))
def j6 (k:IntKind) (x y:Int):Int:=x.fdiv (2^(min y.toNat k.bits))
def kb (a b:ByteArray):Bool:=Op.bytesLess a.toList b.toList
def dm (a b:ByteArray):Bool:=a.toList==b.toList
def yP (op:BinOp) (k:IntKind) (a b:Int) (K:Value→Prop):Prop:=
 match op with
 | .add=>K (.int k (k.wrap (a+b)))
 | .sub=>K (.int k (k.wrap (a - b)))
 | .mul=>K (.int k (k.wrap (a*b)))
 | .quo=>b≠0∧K (.int k (k.wrap (a.tdiv b)))
 | .rem=>b≠0∧K (.int k (a.tmod b))
 | .and=>K (.int k (cf .and k a b))
 | .or=>K (.int k (cf .or k a b))
 | .xor=>K (.int k (cf .xor k a b))
 | .andNot=>K (.int k (cf .andNot k a b))
 | .eql=>K (.bool (a==b))
 | .neq=>K (.bool (a !=b))
 | .lss=>K (.bool (decide (a<b)))
 | .leq=>K (.bool (decide (a≤b)))
 | .gtr=>K (.bool (decide (a>b)))
 | .geq=>K (.bool (decide (a≥b)))
 | _=>False
theorem tz {P:Program} {op:BinOp} {k:IntKind} {a b:Int} {K:Value→Prop} (hs:op≠.shl∧op≠.shr) (h:yP op k a b K) (T:TypeId) :
  ∃ v,(∀ w,(Go.binOp op T (.int k a) (.int k b)).run P w=.ok v w)∧K v:=by
 unfold yP at h
 cases op <;> simp only [] at h <;>
  first
  | exact h.elim
  | exact absurd rfl hs.1
  | exact absurd rfl hs.2
  | (refine ⟨_,fun w=>?_,h.2⟩; simp [Go.binOp,Op.intDiv,h.1]; done)
  | (refine ⟨_,fun w=>?_,h⟩; simp [Go.binOp,Op.intArith,Op.intCmp]; done)
  | (refine ⟨_,fun w=>?_,h⟩; simp only [Go.binOp,ne_eq,not_true_eq_false,if_false]; rfl)
def yf (op:BinOp) (a b:ByteArray) (K:Value→Prop):Prop:=
 match op with
 | .add=>a.size+b.size≤9223372036854775807∧K (.string (a++b))
 | .eql=>K (.bool (dm a b))
 | .neq=>K (.bool (!dm a b))
 | .lss=>K (.bool (kb a b))
 | .leq=>K (.bool (kb a b||dm a b))
 | .gtr=>K (.bool (!(kb a b||dm a b)))
 | .geq=>K (.bool (!kb a b))
 | _=>False
theorem sS {P:Program} {op:BinOp} {a b:ByteArray} {K:Value→Prop} (h:yf op a b K) (T:TypeId) :
  ∃ v,(∀ w,(Go.binOp op T (.string a) (.string b)).run P w=.ok v w)∧K v:=by
 unfold yf at h
 cases op <;> simp only [] at h <;>
  first
  | exact h.elim
  | exact ⟨_,fun w=>by simp [Go.binOp,Op.stringOp,dm,kb],h⟩
  | (refine ⟨_,fun w=>?_,h.2⟩
     have h1:¬ (((a.size+b.size:Nat):Int)>IntKind.i64.max):=by
      have:=h.1;simp only [IntKind.max,IntKind.signed,IntKind.bits];omega
     simp only [Go.binOp,Op.stringOp];rw [am h1]
     rfl)
def qD {α:Type} (a b:Option α):Option Bool:=
 match b with
 | none=>some a.isNone
 | some _=>match a with
   | none=>some false
   | some _=>none
def iJ (P:Program):List Field→Nat→List Value→List Value→Option Bool
 | [],_,[],[]=>some true
 | f::fs,i,x::xs,y::ys=>cond (Nat.beq f.offset i&&decide (f.name≠ "_")) (match P.underlying f.type,x,y with
    | some .string,.string a,.string b=>(iJ P fs (i+1) xs ys).map fun r=>dm a b&&r
    | some (.int _),.int k a,.int k' b=>cond (decide (k=k')) ((iJ P fs (i+1) xs ys).map fun r=>(a==b)&&r) none
    | some .bool,.bool a,.bool b=>(iJ P fs (i+1) xs ys).map fun r=>(a==b)&&r
    | _,_,_=>none) none
 | _,_,_,_=>none
theorem mo {P:Program} {d:Nat} {as bs:Array Value}:∀ (fs:List Field) (i:Nat) (xs ys:List Value) (b:Bool) (w:World),iJ P fs i xs ys=some b→as.toList.drop i=xs→bs.toList.drop i=ys→(Op.eqFields (d+1) as bs fs).run P w=.ok b w
 | [],i,[],[],b,w,h,_,_=>by
   simp only [iJ,Option.some.injEq] at h;subst h
   rfl
 | [],i,x::xs,ys,b,w,h,_,_=>by simp [iJ] at h
 | [],i,[],y::ys,b,w,h,_,_=>by simp [iJ] at h
 | f::fs,i,[],ys,b,w,h,_,_=>by simp [iJ] at h
 | f::fs,i,x::xs,[],b,w,h,_,_=>by simp [iJ] at h
 | f::fs,i,x::xs,y::ys,b,w,h,ha,hb=>by
   have get:∀ {l:Array Value} {z:Value} {zs:List Value},l.toList.drop i=z::zs→l[i]? = some z∧l.toList.drop (i+1)=zs:=fun {l z zs} e=>by
    constructor
    · rw [← Array.getElem?_toList,show l.toList[i]? = (l.toList.drop i)[0]? by rw [getElem?_drop,Nat.add_zero],e]
      rfl
    · rw [show l.toList.drop (i+1)=(l.toList.drop i).drop 1 by rw [drop_drop],e]
      rfl
   obtain ⟨xa,xt⟩:=get ha;obtain ⟨ya,yt⟩:=get hb;unfold iJ at h
   cases hc:(Nat.beq f.offset i&&decide (f.name≠ "_")) with
   | false=>rw [hc] at h; cases h
   | true=>
     rw [hc,ae] at h;simp only [ay,decide_eq_true_eq] at hc;obtain ⟨ho,hn⟩:=hc;have ho:=Nat.eq_of_beq_eq_true ho;have ih:=mo (P:=P) (d:=d) (as:=as) (bs:=bs) fs (i+1) xs ys;unfold Op.eqFields;rw [an hn,ho];split at h
     · rename_i a c hu;obtain ⟨r,hr,rfl⟩:=Option.map_eq_some_iff.1 h;have e1:=ih r w hr xt yt;simp only [Sem.run_bind,part,isAgg,run_underlying hu,xa,ya,Sem.run_pure,Result.andThen_ok];simp only [Result.andThen_ok,Bool.false_eq_true,if_false,Sem.run_pure];rw [run_equalIn_string w d f.type a c hu];simp only [Result.andThen_ok,Sem.run_ite];unfold dm
       cases a.toList==c.toList with
       | false=>simp
       | true=>simpa using e1
     · rename_i k0 k a k' c hu;by_cases hk:k=k'
       · subst hk;simp only [decide_true,ae] at h;obtain ⟨r,hr,rfl⟩:=Option.map_eq_some_iff.1 h;have e1:=ih r w hr xt yt;simp only [Sem.run_bind,part,isAgg,run_underlying hu,xa,ya,Sem.run_pure,Result.andThen_ok];simp only [Result.andThen_ok,Bool.false_eq_true,if_false,Sem.run_pure];rw [run_equalIn_int w d f.type k k0 a c hu];simp only [Result.andThen_ok,Sem.run_ite]
         cases a==c with
         | false=>simp
         | true=>simpa using e1
       · simp only [hk,decide_false,ab] at h;cases h
     · rename_i a c hu;obtain ⟨r,hr,rfl⟩:=Option.map_eq_some_iff.1 h;have e1:=ih r w hr xt yt;simp only [Sem.run_bind,part,isAgg,run_underlying hu,xa,ya,Sem.run_pure,Result.andThen_ok];simp only [Result.andThen_ok,Bool.false_eq_true,if_false,Sem.run_pure];rw [run_equalIn_bool' w d f.type a c hu];simp only [Result.andThen_ok,Sem.run_ite]
       cases a==c with
       | false=>simp
       | true=>simpa using e1
     · cases h
def AS (P:Program) (T:TypeId) (x y:Value):Option Bool:=
 match P.underlying T,x,y with
 | some .bool,.bool a,.bool b=>some (a==b)
 | some (.pointer _),.pointer a,.pointer b=>qD a b
 | some (.slice _),.slice a _ _,.slice b _ _=>qD a b
 | some (.map _ _),.map a,.map b=>qD a b
 | some (.struct fs),.agg a,.agg b=>cond (!(P.stoodInHeld T) && !(P.eqGuardType P.depth T)) (iJ P fs.toList 0 a.toList b.toList) none
 | _,_,_=>none
theorem AR {P:Program} {T:TypeId} {a b:Array Value} {r:Bool} (h:AS P T (.agg a) (.agg b)=some r):P.eqGuardType P.depth T=false:=by
 unfold AS at h
 split at h
 · rename_i heq _; cases heq
 · rename_i heq _; cases heq
 · rename_i heq _; cases heq
 · rename_i heq _; cases heq
 · cases hc:(!(P.stoodInHeld T) && !(P.eqGuardType P.depth T)) with
   | false=>rw [hc] at h; cases h
   | true=>
     simp only [ay,Bool.not_eq_true'] at hc;exact hc.2
 · cases h
theorem wU {P:Program} {T:TypeId} {x y:Value} {b:Bool} (h:AS P T x y=some b) (w:World):(Op.equal T x y).run P w=.ok b w:=by
 unfold Op.equal
 rw [show Op.maxDepth=9999+1 from rfl]
 unfold Op.equalIn
 unfold AS at h
 split at h
 · rename_i h1; simp only [Option.some.injEq] at h; subst h; simp [run_underlying h1]
 · rename_i a c h1;unfold qD at h
   cases c with
   | none=>simp only [Option.some.injEq] at h; subst h; cases a <;> simp [run_underlying h1]
   | some c=>
     cases a with
     | none=>simp only [Option.some.injEq] at h; subst h; simp [run_underlying h1]
     | some a=>cases h
 · rename_i a _ _ c _ _ h1;unfold qD at h
   cases c with
   | none=>simp only [Option.some.injEq] at h; subst h; cases a <;> simp [run_underlying h1]
   | some c=>
     cases a with
     | none=>simp only [Option.some.injEq] at h; subst h; simp [run_underlying h1]
     | some a=>cases h
 · rename_i a c h1;unfold qD at h
   cases c with
   | none=>simp only [Option.some.injEq] at h; subst h; cases a <;> simp [run_underlying h1]
   | some c=>
     cases a with
     | none=>simp only [Option.some.injEq] at h; subst h; simp [run_underlying h1]
     | some a=>cases h
 · rename_i fs a c h1
   cases hc:(!(P.stoodInHeld T) && !(P.eqGuardType P.depth T)) with
   | false=>rw [hc] at h; cases h
   | true=>
     rw [hc,ae] at h;simp only [ay,Bool.not_eq_true'] at hc;have hf:P.fieldsOf T=fs:=by unfold Program.fieldsOf; rw [h1]
     have:=run_equalIn_agg (P:=P) w 9999 T a c (by rw [hf]; exact h1) hc.1;unfold Op.equalIn at this;rw [this,hf];exact mo fs.toList 0 a.toList c.toList b w h rfl rfl
 · cases h
variable {base:List Deferred}
def vw (h:Heap) (r:Nat):Option (TypeId×Nat):=
 match h[r]? with
 | some (.cells c elem _)=>some (elem,c.size)
 | _=>none
def vN (h:Heap) (a:Addr) (n:Nat):Heap:=
 if n=0 then h else
 h.modify a.block fun
  | .cells c elem (lo,hi)=>.cells c elem (if lo==hi then (a.off,a.off+n) else (min lo a.off,max hi (a.off+n)))
  | o=>o
def E6:Obj→Bool
 | .cells ..=>true
 | _=>false
def nW (P:Program) {α:Type}:Sem α→Heap→(α→Prop)→Prop
 | .pure a,_,K=>K a
 | .load _ a k,h,K=>∃ v,bI h a=some v∧nW P (k v) h K
 | .shape r k,h,K=>nW P (k (vw h r)) h K
 | .frozen a k,h,K=>nW P (k (gY h a)) h K
 | .program k,h,K=>nW P (k P) h K
 | .mark _ k,h,K=>nW P k h K
 | _,_,_=>False
theorem jX {P:Program} {α:Type}:∀ {s:Sem α} {h:Heap} {K:α→Prop},nW P s h K→
  ∃ a,(∀ w:World,w.heap=h→s.run P w=.ok a w)∧K a:=by
 intro s
 induction s with
 | pure a=>exact fun H=>⟨a,fun _ _=>rfl,H⟩
 | load m a k ih=>
   intro h K H;obtain ⟨v,hv,H⟩:=H;obtain ⟨x,hx,H⟩:=ih v H;exact ⟨x,fun w hw=>by simp only [Sem.run,dU,hw,hv]; exact hx w hw,H⟩
 | shape r k ih=>
   intro h K H;obtain ⟨x,hx,H⟩:=ih _ H;exact ⟨x,fun w hw=>by subst hw; exact hx w rfl,H⟩
 | frozen a k ih=>
   intro h K H;obtain ⟨x,hx,H⟩:=ih _ H;exact ⟨x,fun w hw=>by subst hw; exact hx w rfl,H⟩
 | program k ih=>
   intro h K H;obtain ⟨x,hx,H⟩:=ih _ H;exact ⟨x,fun w hw=>hx w hw,H⟩
 | mark m k ih=>
   intro h K H;obtain ⟨x,hx,H⟩:=ih H;exact ⟨x,fun w hw=>hx w hw,H⟩
 | _=>exact fun H=>H.elim
def mw (P:Program) {α:Type}:Sem α→Heap→(α→Heap→Prop)→Prop
 | .pure a,h,K=>K a h
 | .load _ a k,h,K=>∃ v,bI h a=some v∧mw P (k v) h K
 | .store _ a v k,h,K=>cond v.oneCell' ((∃ u,bI h a=some u)∧gY h a=false∧mw P k (yn h a v) K) False
 | .new o k,h,K=>mw P (k h.size) (h.push o) K
 | .shape r k,h,K=>mw P (k (vw h r)) h K
 | .freeze a n k,h,K=>mw P k (vN h a n) K
 | .frozen a k,h,K=>mw P (k (gY h a)) h K
 | .getObj r k,h,K=>∃ o,h[r]? = some o∧E6 o=false∧mw P (k o) h K
 | .setObj r o k,h,K=>(∃ o',h[r]? = some o'∧E6 o'=false)∧mw P k (h.setIfInBounds r o) K
 | .choose q k,h,K=>∀ t,mw P (k (cond q.forced 0 (q.cut t))) h K
 | .program k,h,K=>mw P (k P) h K
 | .mark _ k,h,K=>mw P k h K
 | _,_,_=>False
theorem vj {P:Program} {α:Type}:∀ {s:Sem α} {h:Heap} {K:α→Heap→Prop},mw P s h K→∀ w:World,w.heap=h→
  ∃ a w',s.run P w=.ok a w'∧fH w w'∧K a w'.heap:=by
 intro s
 induction s with
 | pure a=>exact fun H w hw=>⟨a,w,rfl,.refl w,hw▸H⟩
 | load m a k ih=>
   intro h K H w hw;obtain ⟨v,hv,H⟩:=H;obtain ⟨x,w',hx,r⟩:=ih v H w hw;exact ⟨x,w',by simp only [Sem.run,dU,hw,hv]; exact hx,r⟩
 | store m a v k ih=>
   intro h K H w hw;simp only [mw] at H
   cases hv:v.oneCell' with
   | false=>rw [hv] at H; exact H.elim
   | true=>
     rw [hv] at H;obtain ⟨⟨u,hu⟩,hf,H⟩:=H;obtain ⟨x,w',hx,s,hK⟩:=ih H (w.setCell a v) (by rw [uy,hw]);have h1:w.cell? a=some u:=by rw [dU,hw]; exact hu
     have h2:w.frozen? a=false:=by rw [mn,hw]; exact hf
     refine ⟨x,w',?_,⟨s.os,s.tape,s.output⟩,hK⟩;cases v <;> simp only [Value.oneCell',Bool.false_eq_true] at hv <;> simp only [Sem.run,h1,h2,Bool.false_eq_true,if_false] <;> exact hx
 | new o k ih=>
   intro h K H w hw;subst hw;obtain ⟨x,w',hx,s,hK⟩:=ih _ H { w with heap:=w.heap.push o } rfl;exact ⟨x,w',hx,⟨s.os,s.tape,s.output⟩,hK⟩
 | shape r k ih=>
   intro h K H w hw;subst hw;exact ih _ H w rfl
 | freeze a n k ih=>
   intro h K H w hw;subst hw;obtain ⟨x,w',hx,s,hK⟩:=ih H (w.freeze a n) (by simp only [World.freeze,vN]; split <;> rfl);have hs:(w.freeze a n).os=w.os∧(w.freeze a n).tape=w.tape∧(w.freeze a n).output=w.output:=by
    simp only [World.freeze]; split <;> exact ⟨rfl,rfl,rfl⟩
   exact ⟨x,w',hx,⟨s.os.trans hs.1,s.tape.trans hs.2.1,s.output.trans hs.2.2⟩,hK⟩
 | frozen a k ih=>
   intro h K H w hw;subst hw;exact ih _ H w rfl
 | getObj r k ih=>
   intro h K H w hw;obtain ⟨o,ho,hc,H⟩:=H;obtain ⟨x,w',hx,rr⟩:=ih o H w hw;refine ⟨x,w',?_,rr⟩;simp only [Sem.run,hw,ho];cases o <;> first | exact hx | (simp [E6] at hc)
 | setObj r o k ih=>
   intro h K H w hw;obtain ⟨⟨o',ho,hc⟩,H⟩:=H;subst hw;obtain ⟨x,w',hx,s,hK⟩:=ih H { w with heap:=w.heap.setIfInBounds r o } rfl;refine ⟨x,w',?_,⟨s.os,s.tape,s.output⟩,hK⟩;simp only [Sem.run,ho];cases o' <;> first | exact hx | (simp [E6] at hc)
 | choose q k ih=>
   intro h K H w hw
   cases hq:q.forced with
   | true=>
     have H0:=H 0;rw [hq] at H0;obtain ⟨x,w',hx,rr⟩:=ih _ H0 w hw;exact ⟨x,w',by simp only [Sem.run,hq,if_true]; exact hx,rr⟩
   | false=>
     have H0:=H (w.tape w.drawn q);rw [hq] at H0;obtain ⟨x,w',hx,s,hK⟩:=ih _ H0 { w with drawn:=w.drawn+1 } hw;exact ⟨x,w',by simp only [Sem.run,hq,Bool.false_eq_true,if_false]; exact hx,⟨s.os,s.tape,s.output⟩,hK⟩
 | program k ih=>exact fun H w hw=>ih _ H w hw
 | mark m k ih=>exact fun H w hw=>ih H w hw
 | _=>exact fun H=>H.elim
def E8 (n:Nat) (φ:Fr) (x:Operand):Value:=
 match ev n φ x with
 | some v=>v
 | none=>undef
def jV (n:Nat) (φ:Fr) (xs:List Operand):Bool:=xs.all fun x=>(ev n φ x).isSome
theorem q4 {n:Nat} {φ:Fr} {o:Oper} (hs:∀ cs b,o.op≠.select cs b) (h:jV n φ o.op.operands.toList=true) {a:Act} (ha:FA base n φ a) :
  execOp a.eval o=execOp (E8 n φ) o:=
 execOp_congr o hs fun x hx=>by
  have:=List.all_eq_true.1 h x (by simpa using hx);obtain ⟨v,hv⟩:=Option.isSome_iff_exists.1 this;rw [bg ha hv]; simp [E8,hv]
def aR (p:Option Addr) (K:Addr→Prop):Prop:=
 match p with
 | some a=>K a
 | none=>False
def bt (s:ByteArray) (i:Int):Int:=((s.data.toList[i.toNat]?).getD 0).toNat
def aO (a:Option Addr) (l:Nat) (ix:Int) (sz:Nat) (K:Addr→Prop):Prop:=∃ b,a=some b∧0≤ix∧ix<(l:Int)∧K (b.add (ix.toNat*sz))
def rm (s:ByteArray) (lo hi:Int) (K:ByteArray→Prop):Prop:=0≤lo∧lo≤hi∧hi≤(s.size:Int)∧K (s.extract lo.toNat hi.toNat)
def fG (a:Option Addr) (l m sz:Nat):Option Addr:=if m=l then a else a.map (·.add (l*sz))
def mX (a:Option Addr) (c sz:Nat) (lo hi mx:Int) (K:Option Addr→Nat→Nat→Prop):Prop:=
 0≤lo∧lo≤hi∧hi≤mx∧mx≤(c:Int)∧K (fG a lo.toNat mx.toNat sz) (hi.toNat - lo.toNat) (mx.toNat - lo.toNat)
def fF (h:Heap) (a:Option Addr) (l:Nat) (bs:ByteArray):Prop:=
 match a with
 | none=>bs=.empty
 | some a=>bs.size=l∧∀ i,i<l→bI h (a.add i)=some (.int .u8 ((bs.data.toList.getD i 0).toNat:Nat))
def eR (h:Heap) (m:Option Nat) (es:Array MapEntry):Prop:=
 match m with
 | none=>es=#[]
 | some r=>∃ clock,h[r]? = some (.map es clock)
def l5 (P:Program) (T:TypeId):Bool:=
 match P.underlying T with
 | some (.int _)=>true
 | some .string=>true
 | some .bool=>true
 | _=>false
def n3 (P:Program) (T:TypeId):Bool:=
 match P.info? T,P.underlying T with
 | some j,some (.slice _)=>j.size==1
 | some j,some (.pointer _)=>j.size==1
 | some j,some (.int _)=>j.size==1
 | some j,some .string=>j.size==1
 | _,_=>false
theorem rV {P:Program} {T:TypeId} {cs:Array Value} {i:Nat} {u:Value} (h:n3 P T=true) (hu:cs.toList[i]? = some u) (w:World) :
  ((do part T cs (i*(← sizeOf T))):Sem Value).run P w=.ok u w:=by
 have hu2:cs[i]? = some u:=by rw [← Array.getElem?_toList]; exact hu
 unfold n3 at h
 split at h <;> first | (cases h; done) | skip
 all_goals
  first
   | (rename_i j _ hj hT
      have hs:j.size=1:=beq_iff_eq.1 h;simp [part,isAgg,sizeOf,typeInfo,hj,run_underlying hT,hs,hu2]
      done)
   | (rename_i j hj hT
      have hs:j.size=1:=beq_iff_eq.1 h;simp [part,isAgg,sizeOf,typeInfo,hj,run_underlying hT,hs,hu2])
def uT (P:Program) (T:TypeId):TypeDesc:=(P.underlying T).getD .string
def Hr (P:Program) (n:Nat) (o:Oper) (φ:Fr) (h:Heap) (K:Value→Prop):Prop:=
 match o.op with
 | .pick c a b=>rd n φ c fun vc=>match vc with
   | .bool t=>cond t (rd n φ a K) (rd n φ b K)
   | _=>False
 | .load T x=>rd n φ x fun v=>match v with
   | .pointer (some a)=>nW P (loadVar T a) h fun v=>dec P T v K
   | _=>False
 | .nilCheck x=>rd n φ x fun v=>match v with
   | .pointer p=>aR p fun a=>K (.pointer (some a))
   | .func (.func f) x y=>K (.func (.func f) x y)
   | .func (.yield f) x y=>K (.func (.yield f) x y)
   | _=>False
 | .binOp op T x y _=>rd n φ x fun vx=>rd n φ y fun vy=>
   match vx,vy with
   | .int k a,.int k' b=>(match op with
     | .shl=>0≤b∧K (.int k (nO k a b))
     | .shr=>0≤b∧K (.int k (j6 k a b))
     | op=>cond (decide (k=k')) (yP op k a b K) False)
   | .string a,.string b=>yf op a b K
   | vx,vy=>(match op,AS P T vx vy with
     | .eql,some b=>K (.bool b)
     | .neq,some b=>K (.bool (!b))
     | _,_=>False)
 | .convert s d x=>rd n φ x fun v=>match P.underlying s,P.underlying d,v with
   | some (.slice e),some .string,.slice a l _=>(match P.underlying e with
     | some (.int .u8)=>∃ bs:ByteArray,fF h a l bs∧K (.string bs)
     | _=>False)
   | _,some (.slice _),_=>False
   | _,_,v=>nW P (Go.convert s d v) h K
 | .indexAddr T x i=>rd n φ x fun vx=>rd n φ i fun vi=>match P.underlying T,vx,vi with
   | some (.slice e),.slice a l _,.int _ ix=>(match P.info? e with
     | some j=>aO a l ix j.size fun a=>K (.pointer (some a))
     | none=>False)
   | some (.array m e),.pointer (some b),.int _ ix=>(match P.info? e with
     | some j=>0≤ix∧ix<(m:Int)∧K (.pointer (some (b.add (ix.toNat*j.size))))
     | none=>False)
   | _,_,_=>False
 | .index T x i=>rd n φ x fun vx=>rd n φ i fun vi=>match P.underlying T,vx,vi with
   | some .string,.string s,.int _ ix=>0≤ix∧ix<(s.size:Int)∧K (.int .u8 (bt s ix))
   | some (.array m e),.agg cs,.int _ ix=>cond (n3 P e) (0≤ix∧ix<(m:Int)∧∃ u,cs.toList[ix.toNat]? = some u∧dec P e u K) False
   | _,_,_=>False
 | .slice T x lo hi mx=>rd n φ x fun vx=>yz n φ lo.toList fun vlo=>yz n φ hi.toList fun vhi=>yz n φ mx.toList fun vmx=>
   match P.underlying T,vx with
   | some .string,.string s=>(match vlo,vhi,vmx with
     | [],[],[]=>K (.string (s.extract 0 s.size))
     | [.int _ lo],[],[]=>rm s lo s.size fun s=>K (.string s)
     | [],[.int _ hi],[]=>rm s 0 hi fun s=>K (.string s)
     | [.int _ lo],[.int _ hi],[]=>rm s lo hi fun s=>K (.string s)
     | _,_,_=>False)
   | some (.slice e),.slice a l c=>(match P.info? e with
     | none=>False
     | some j=>(match vlo,vhi,vmx with
       | [],[],[]=>mX a c j.size 0 l c fun a l c=>K (.slice a l c)
       | [.int _ lo],[],[]=>mX a c j.size lo l c fun a l c=>K (.slice a l c)
       | [],[.int _ hi],[]=>mX a c j.size 0 hi c fun a l c=>K (.slice a l c)
       | [.int _ lo],[.int _ hi],[]=>mX a c j.size lo hi c fun a l c=>K (.slice a l c)
       | [],[.int _ hi],[.int _ mx]=>mX a c j.size 0 hi mx fun a l c=>K (.slice a l c)
       | [.int _ lo],[.int _ hi],[.int _ mx]=>mX a c j.size lo hi mx fun a l c=>K (.slice a l c)
       | _,_,_=>False))
   | some (.array m e),.pointer (some b)=>(match P.info? e with
     | none=>False
     | some _=>(match vlo,vhi,vmx with
       | [],[],[]=>K (.slice (some b) m m)
       | _,_,_=>False))
   | _,_=>False
 | .lookup T x i ok=>rd n φ x fun vx=>rd n φ i fun vi=>match P.underlying T,vx with
   | some (.map key elem),.map m=>cond (l5 P key)
    (∃ es,eR h m es∧∃ f,Instr.findNow (uT P key) vi es.toList 0=some f∧
     (match (P.info? elem).bind (·.zero) with
      | some z=>dec P elem ((f.map (·.2)).getD z) fun v=>K (cond ok (.tuple #[v,.bool f.isSome]) v)
      | none=>False)) False
   | _,_=>False
 | .call { callee:=.builtin .len,args,argTypes }=>yz n φ args.toList fun vs=>match argTypes.toList,vs with
   | [T],[.map m]=>(match P.underlying T with
     | some (.map _ _)=>∃ es,eR h m es∧K (.int .i64 es.size)
     | _=>False)
   | _,_=>cond (jV n φ o.op.operands.toList) (nW P (execOp (E8 n φ) o) h fun nx=>match nx with
     | .value v=>K v
     | _=>False) False
 | _=>cond (jV n φ o.op.operands.toList) (nW P (execOp (E8 n φ) o) h fun nx=>match nx with
   | .value v=>K v
   | _=>False) False
def E5 (P:Program) (o:Op):Bool:=
 match o with
 | .move _=>true
 | .assign _=>true
 | .pick ..=>true
 | .load ..=>true
 | .nilCheck _=>true
 | .binOp ..=>true
 | .unOp ..=>true
 | .convert _ d _=>(match P.underlying d with
   | some (.slice _)=>false
   | _=>true)
 | .fieldAddr ..=>true
 | .field ..=>true
 | .indexAddr ..=>true
 | .index ..=>true
 | .slice ..=>true
 | .extract ..=>true
 | .makeFunc ..=>true
 | .makeInterface ..=>true
 | .lookup ..=>true
 | .build ..=>true
 | .call { callee:=.builtin .len,.. }=>true
 | .call { callee:=.builtin .min,.. }=>true
 | .call { callee:=.builtin .max,.. }=>true
 | .call { callee:=.builtin .cap,.. }=>true
 | _=>false
theorem A2 {s:ByteArray} {i:Int} (h0:0≤i) (h1:i<(s.size:Int)):(if 0≤i then s[i.toNat]? else none)=some ((s.data.toList[i.toNat]?).getD 0):=by
 rw [an h0]
 have hlt:i.toNat<s.size:=by omega
 rw [ByteArray.getElem?_lt' s _ hlt]
 have h2:i.toNat<s.data.toList.length:=by simpa using hlt
 simp only [ai h2,Option.getD_some]
 simp [ByteArray.getElem_eq_getElem_data]
theorem rO {P:Program} {h:Heap} {a:Option Addr} {l c:Nat} {bs:ByteArray} (H:fF h a l bs) (w:World) (hw:w.heap=h) :
  (Conv.bytesToString (.slice a l c)).run P w=.ok (.string bs) w:=by
 cases a with
 | none=>simp only [fF] at H; subst H; rfl
 | some a=>
   obtain ⟨h1,h2⟩:=H;have hlen:(bs.data.toList.map fun b=>Value.int .u8 (b.toNat:Int)).length=l:=by simpa using h1
   have hload:(loadCells a l).run P w=.ok (bs.data.toList.map fun b=>Value.int .u8 (b.toNat:Int)).toArray w:=by
    have:=run_loadCells_list (P:=P) (w:=w) a (bs.data.toList.map fun b=>Value.int .u8 (b.toNat:Int)) (fun j v hv=>?_)
    · rw [hlen] at this; exact this
    · rw [dU,hw];obtain ⟨hj,hv⟩:=ak.1 hv;subst hv;have hj':j<bs.data.toList.length:=by simpa using hj
      rw [h2 j (by omega)];simp [getD_eq_getElem?_getD,ai hj']
   have:=run_bytesToString (P:=P) w a l c (bs.data.toList.map fun b=>(b.toNat:Int)) (by rw [hload]; simp [Function.comp_def]);rw [this];congr 2;rw [foldl_push_bytes];apply ByteArray.ext;simp [Function.comp_def]
theorem fL {P:Program} {op:BinOp} {T:TypeId} {x y:Operand} {u v:Value} (hu:(∀ k,u≠.agg k)∧u≠.nilIface) (w:World):(eqGuard op T x y u v).run P w=.ok () w:=by
 unfold eqGuard
 cases op <;> first | rfl | skip
 all_goals
  cases u <;> first | rfl | exact absurd rfl hu.2 | exact absurd rfl (hu.1 _)
theorem re {P:Program} {n:Nat} {o:Oper} {φ:Fr} {h:Heap} {K:Value→Prop} (hs:∀ cs b,o.op≠.select cs b)
  (H:cond (jV n φ o.op.operands.toList) (nW P (execOp (E8 n φ) o) h fun nx=>match nx with
   | .value v=>K v
   | _=>False) False):∃ v,(∀ {base:List Deferred} (a:Act) (w:World),FA base n φ a→w.heap=h→(execOp a.eval o).run P w=.ok (.value v) w)∧K v:=by
 cases hr:jV n φ o.op.operands.toList with
 | false=>rw [hr] at H; exact H.elim
 | true=>
   rw [hr] at H;obtain ⟨x,hx,H⟩:=jX H;cases x <;> simp only [] at H <;> first | exact H.elim | skip
   rename_i v;exact ⟨v,fun a w ha hw=>by rw [q4 hs hr ha]; exact hx w hw,H⟩
theorem vP {P:Program} {T:TypeId} {x y:Value} {b:Bool} (h:AS P T x y=some b) (w:World) :
  (Go.binOp .eql T x y).run P w=.ok (.bool b) w∧(Go.binOp .neq T x y).run P w=.ok (.bool (!b)) w:=by
 have h1:=wU h w
 unfold AS at h
 split at h <;> first | (cases h; done) | (constructor <;> simp [Go.binOp,h1])
theorem mM {P:Program} {n:Nat} {o:Oper} {φ:Fr} {h:Heap} {K:Value→Prop} (hq:E5 P o.op=true) (H:Hr P n o φ h K) :
  ∃ v,(∀ {base:List Deferred} (a:Act) (w:World),FA base n φ a→w.heap=h→(execOp a.eval o).run P w=.ok (.value v) w)∧K v:=by
 unfold Hr at H
 split at H
 · -- pick
   rename_i c a b hop;obtain ⟨vc,hc,H⟩:=bw H;cases vc <;> simp only [] at H <;> first | exact H.elim | skip
   rename_i t
   cases t with
   | true=>
     obtain ⟨v,hv,H⟩:=bw H;exact ⟨v,fun ac w ha hw=>by simp [execOp,hop,bg ha hc,bg ha hv,asBool],H⟩
   | false=>
     obtain ⟨v,hv,H⟩:=bw H;exact ⟨v,fun ac w ha hw=>by simp [execOp,hop,bg ha hc,bg ha hv,asBool],H⟩
 · -- load
   rename_i T x hop;obtain ⟨v,hv,H⟩:=bw H;split at H
   · obtain ⟨u,hu,H⟩:=jX H;refine ⟨u,fun ac w ha hw=>?_,eF H⟩;simp only [execOp,hop,Instr.loadAt,Instr.sureAddr,bg ha hv,Sem.run_bind,Sem.run_pure,Result.andThen_ok,hu w hw]
   · exact H.elim
 · -- nilCheck
   rename_i x hop;obtain ⟨v,hv,H⟩:=bw H;split at H
   · rename_i p
     cases p with
     | none=>exact H.elim
     | some a=>exact ⟨_,fun ac w ha hw=>by simp [execOp,hop,bg ha hv],H⟩
   · exact ⟨_,fun ac w ha hw=>by simp [execOp,hop,bg ha hv],H⟩
   · exact ⟨_,fun ac w ha hw=>by simp [execOp,hop,bg ha hv],H⟩
   · exact H.elim
 · -- binOp
   rename_i op T x y yT hop;obtain ⟨vx,hx,H1⟩:=bw H;clear H;obtain ⟨vy,hy,H⟩:=bw H1;clear H1;have key:∀ (v:Value),(∀ w,(Go.binOp op T vx vy).run P w=.ok v w)→(∀ (x y:Operand) (w:World),(eqGuard op T x y vx vy).run P w=.ok () w)→
    (∀ {base:List Deferred} (a:Act) (w:World),FA base n φ a→w.heap=h→(execOp a.eval o).run P w=.ok (.value v) w):=fun v hv hne {_} a w ha _=>by
    simp only [execOp,hop,bg ha hx,bg ha hy,Sem.run_bind,hne _ _ w,Result.andThen_ok,hv w,Sem.run_pure]
   split at H
   · rename_i k a k' b;split at H
     · obtain ⟨h0,H⟩:=H;refine ⟨_,key _ (fun w=>?_) (fun x y w=>fL ⟨fun _=>by simp,by simp⟩ w),H⟩;show (Op.shift .shl k a k' b).run P w=_;unfold Op.shift;rw [am (by omega)]
       rfl
     · obtain ⟨h0,H⟩:=H;refine ⟨_,key _ (fun w=>?_) (fun x y w=>fL ⟨fun _=>by simp,by simp⟩ w),H⟩;show (Op.shift .shr k a k' b).run P w=_;unfold Op.shift;rw [am (by omega)]
       rfl
     · rename_i hn1 hn2;by_cases hk:k=k'
       · subst hk;simp only [decide_true,ae] at H;obtain ⟨v,hv,H⟩:=tz (P:=P) ⟨hn1,hn2⟩ H T;exact ⟨v,key v hv (fun x y w=>fL ⟨fun _=>by simp,by simp⟩ w),H⟩
       · simp only [hk,decide_false,ab] at H
   · obtain ⟨v,hv,H⟩:=sS (P:=P) H T;exact ⟨v,key v hv (fun x y w=>fL ⟨fun _=>by simp,by simp⟩ w),H⟩
   · rename_i hni hns;have hne:∀ b,AS P T vx vy=some b→(∀ (x y:Operand) (w:World),(eqGuard op T x y vx vy).run P w=.ok () w):=fun b hb=>by
      have hb0:=hb;unfold AS at hb;split at hb <;> first | (cases hb; done) | exact fun x y w=>run_eqGuard_agg w op T x y _ _ (AR hb0) | exact fun x y w=>fL ⟨fun _=>by simp,by simp⟩ w
     split at H
     · rename_i b hb;exact ⟨_,key _ (fun w=>(vP hb w).1) (hne b hb),H⟩
     · rename_i b hb;exact ⟨_,key _ (fun w=>(vP hb w).2) (hne b hb),H⟩
     · exact H.elim
 · -- convert
   rename_i sT dT x hop;obtain ⟨v,hv,H1⟩:=bw H;clear H;split at H1
   · rename_i e a l c hs hd;split at H1
     · rename_i he;obtain ⟨bs,hb,H⟩:=H1;refine ⟨_,fun ac w ha hw=>?_,H⟩;simp only [execOp,hop,bg ha hv,Sem.run_bind,run_convert_bytes_string w sT dT e a l c hs he hd,rO hb w hw,Result.andThen_ok,Sem.run_pure]
     · exact H1.elim
   · exact H1.elim
   · obtain ⟨u,hu,H⟩:=jX H1;refine ⟨u,fun ac w ha hw=>?_,H⟩;simp only [execOp,hop,bg ha hv,Sem.run_bind,hu w hw,Result.andThen_ok,Sem.run_pure]
 · -- indexAddr
   rename_i T x i hop;obtain ⟨vx,hx,H1⟩:=bw H;clear H;obtain ⟨vi,hi,H⟩:=bw H1;clear H1;split at H
   · rename_i e a l c k ix hT;split at H
     · rename_i j hj;obtain ⟨b,rfl,h0,h1,H⟩:=H;refine ⟨_,fun ac w ha hw=>?_,H⟩;simp only [execOp,hop,bg ha hx,bg ha hi,Sem.run_bind,Instr.indexAt,asIntOf,run_underlying hT,Sem.run_pure,Result.andThen_ok,Bool.and_false];rw [an ⟨h0,h1⟩];simp [sizeOf,typeInfo,hj]
     · exact H.elim
   · rename_i m e b k ix hT;split at H
     · rename_i j hj;obtain ⟨h0,h1,H⟩:=H;refine ⟨_,fun ac w ha hw=>?_,H⟩;simp only [execOp,hop,bg ha hx,bg ha hi,Sem.run_bind,Instr.indexAt,asIntOf,run_underlying hT,Sem.run_pure,Result.andThen_ok,Instr.sureAddr];rw [an ⟨h0,h1⟩];simp [sizeOf,typeInfo,hj]
     · exact H.elim
   · exact H.elim
 · -- index
   rename_i T x i hop;obtain ⟨vx,hx,H1⟩:=bw H;clear H;obtain ⟨vi,hi,H⟩:=bw H1;clear H1;split at H
   · rename_i s k ix hT;obtain ⟨h0,h1,H⟩:=H;refine ⟨_,fun ac w ha hw=>?_,H⟩;simp only [execOp,hop,bg ha hx,bg ha hi,Sem.run_bind,Instr.index,asIntOf,run_underlying hT,Sem.run_pure,Result.andThen_ok,A2 h0 h1]
     rfl
   · rename_i m e cs k ix hT
     cases hc:n3 P e with
     | false=>rw [hc] at H; exact H.elim
     | true=>
       rw [hc] at H;obtain ⟨h0,h1,u,hu,H⟩:=H;refine ⟨_,fun ac w ha hw=>?_,eF H⟩;have hp:=rV hc hu w;simp only [Sem.run_bind] at hp;simp only [execOp,hop,bg ha hx,bg ha hi,Sem.run_bind,Instr.index,asIntOf,run_underlying hT,Sem.run_pure,Result.andThen_ok];rw [an ⟨h0,h1⟩];simp only [Sem.run_bind,hp,Result.andThen_ok]
   · exact H.elim
 · -- slice
   rename_i T x lo hi mx hop;obtain ⟨vx,hx,H1⟩:=bw H;clear H;obtain ⟨vlo,hlo,H2⟩:=ee H1;clear H1;obtain ⟨vhi,hhi,H3⟩:=ee H2;clear H2;obtain ⟨vmx,hmx,H⟩:=ee H3;clear H3;have hop':∀ {base:List Deferred} (ac:Act),FA base n φ ac→execOp ac.eval o=(do let v ← Instr.sliceAt T vx vlo.head? vhi.head? vmx.head?; pure (.value v)):=fun ac ha=>by
    have e1:lo.map ac.eval=vlo.head? := by rw [← hlo ac ha]; cases lo <;> rfl
    have e2:hi.map ac.eval=vhi.head? := by rw [← hhi ac ha]; cases hi <;> rfl
    have e3:mx.map ac.eval=vmx.head? := by rw [← hmx ac ha]; cases mx <;> rfl
    simp only [execOp,hop,bg ha hx,e1,e2,e3]
   split at H
   · rename_i s hT;split at H
     · refine ⟨_,fun ac w ha hw=>?_,H⟩;rw [hop' ac ha];simp [Instr.sliceAt,run_underlying hT,Instr.slice,Instr.sliceBounds]
     · rename_i k lo;obtain ⟨h0,h1,h2,H⟩:=H;refine ⟨_,fun ac w ha hw=>?_,H⟩;rw [hop' ac ha];have b1:0≤lo∧lo≤(s.size:Int):=⟨h0,h1⟩
       simp [Instr.sliceAt,run_underlying hT,Instr.slice,Instr.sliceBounds,Instr.sliceBound,asIntOf,b1]
     · rename_i k hi;obtain ⟨h0,h1,h2,H⟩:=H;refine ⟨_,fun ac w ha hw=>?_,H⟩;rw [hop' ac ha];have b1:0≤hi∧hi≤(s.size:Int):=⟨h1,h2⟩
       simp [Instr.sliceAt,run_underlying hT,Instr.slice,Instr.sliceBounds,Instr.sliceBound,asIntOf,b1]
     · rename_i k lo k' hi;obtain ⟨h0,h1,h2,H⟩:=H;refine ⟨_,fun ac w ha hw=>?_,H⟩;rw [hop' ac ha];have b1:0≤hi∧hi≤(s.size:Int):=⟨by omega,h2⟩
       have b2:0≤lo∧lo≤(hi.toNat:Int):=⟨h0,by omega⟩
       have b3:lo≤max hi 0:=by omega
       simp [Instr.sliceAt,run_underlying hT,Instr.slice,Instr.sliceBounds,Instr.sliceBound,asIntOf,b1,b2,b3,h0]
     · exact H.elim
   · rename_i e a l c hT;split at H
     · exact H.elim
     · rename_i j hj;have hsz:∀ w,(sizeOf e).run P w=.ok j.size w:=fun w=>by simp [sizeOf,typeInfo,hj]
       split at H
       · obtain ⟨h0,h1,h2,h3,H⟩:=H;refine ⟨_,fun ac w ha hw=>?_,H⟩;rw [hop' ac ha];simp [Instr.sliceAt,run_underlying hT,Instr.slice,Instr.sliceBounds,hsz,fG]
       · rename_i k lo;obtain ⟨h0,h1,h2,h3,H⟩:=H;refine ⟨_,fun ac w ha hw=>?_,H⟩;rw [hop' ac ha];simp [Instr.sliceAt,run_underlying hT,Instr.slice,Instr.sliceBounds,Instr.sliceBound,asIntOf,hsz,fG,h0,h1]
       · rename_i k hi;obtain ⟨h0,h1,h2,h3,H⟩:=H;refine ⟨_,fun ac w ha hw=>?_,H⟩;rw [hop' ac ha];simp [Instr.sliceAt,run_underlying hT,Instr.slice,Instr.sliceBounds,Instr.sliceBound,asIntOf,hsz,fG,h1,h2]
       · rename_i k lo k' hi;obtain ⟨h0,h1,h2,h3,H⟩:=H;refine ⟨_,fun ac w ha hw=>?_,H⟩;rw [hop' ac ha];have b1:0≤hi:=by omega
         have b3:lo≤max hi 0:=by omega
         simp [Instr.sliceAt,run_underlying hT,Instr.slice,Instr.sliceBounds,Instr.sliceBound,asIntOf,hsz,fG,h0,h2,b1,b3]
       · rename_i k hi k' mx;obtain ⟨h0,h1,h2,h3,H⟩:=H;refine ⟨_,fun ac w ha hw=>?_,H⟩;rw [hop' ac ha];have b1:0≤mx:=by omega
         have b3:hi≤max mx 0:=by omega
         simp [Instr.sliceAt,run_underlying hT,Instr.slice,Instr.sliceBounds,Instr.sliceBound,asIntOf,hsz,fG,h1,h3,b1,b3]
       · rename_i k lo k' hi k'' mx;obtain ⟨h0,h1,h2,h3,H⟩:=H;refine ⟨_,fun ac w ha hw=>?_,H⟩;rw [hop' ac ha];have b1:0≤mx:=by omega
         have b2:0≤hi:=by omega
         have b3:hi≤max mx 0:=by omega
         have b4:lo≤max hi 0:=by omega
         simp [Instr.sliceAt,run_underlying hT,Instr.slice,Instr.sliceBounds,Instr.sliceBound,asIntOf,hsz,fG,h0,h3,b1,b2,b3,b4]
       · exact H.elim
   · rename_i m e b hT;split at H
     · exact H.elim
     · rename_i j hj;have hsz:∀ w,(sizeOf e).run P w=.ok j.size w:=fun w=>by simp [sizeOf,typeInfo,hj]
       split at H
       · refine ⟨_,fun ac w ha hw=>?_,H⟩;rw [hop' ac ha];have hb:(if m=0 then b else b.add (0*j.size))=b:=by
          rw [Nat.zero_mul];split
          · rfl
          · simp [Addr.add]
         simp [Instr.sliceAt,run_underlying hT,Instr.sureAddr,Instr.sliceBounds,hsz,hb];simpa using hb
       · exact H.elim
   · exact H.elim
 · -- lookup
   rename_i T x i ok hop;obtain ⟨vx,hx,H1⟩:=bw H;clear H;obtain ⟨vi,hi,H⟩:=bw H1;clear H1;split at H
   · rename_i key elem m hT
     cases hp:l5 P key with
     | false=>rw [hp] at H; exact H.elim
     | true=>
       rw [hp] at H;obtain ⟨es,hes,f,hf,H⟩:=H;split at H
       · rename_i z hz;obtain ⟨d,hd,hkd⟩:∃ d,P.underlying key=some d∧uT P key=d:=by
          unfold l5 at hp
          cases hu:P.underlying key with
          | none=>rw [hu] at hp; cases hp
          | some d=>exact ⟨d,rfl,by simp [uT,hu]⟩
         rw [hkd] at hf;have hck:∀ b w,(Instr.checkKey b 10000 key vi).run P w=.ok () w:=fun b w=>by
          rw [show (10000:Nat)=9999+1 from rfl];unfold Instr.checkKey;unfold l5 at hp;rw [hd] at hp;simp only [Sem.run_bind,run_underlying hd,Result.andThen_ok];cases d <;> first | (cases hp; done) | rfl
         have hfk:∀ w,(Instr.findKey key vi es.toList).run P w=.ok f w:=fun w=>by
          unfold Instr.findKey;simp only [Sem.run_bind,run_underlying hd,Result.andThen_ok,hf]
          rfl
         have hzv:∀ w,(zeroValue elem).run P w=.ok z w:=fun w=>by
          cases hin:P.info? elem with
          | none=>rw [hin] at hz; cases hz
          | some inf=>
            rw [hin] at hz;simp only [Option.bind_some] at hz;simp [zeroValue,typeInfo,hin,hz]
         have H:=eF H;refine ⟨_,fun ac w ha hw=>?_,H⟩;have hrun:(Instr.lookup T (.map m) vi ok).run P w=.ok (cond ok (.tuple #[(f.map (·.2)).getD z,.bool f.isSome]) ((f.map (·.2)).getD z)) w:=by
          unfold Instr.lookup
          cases m with
          | none=>
            simp only [eR] at hes; subst hes;simp only [Sem.run_bind,run_underlying hT,Result.andThen_ok,hck,List.isEmpty_nil,Sem.run_pure];have hfk':=hfk w;simp only [List.toList_toArray] at hfk';rw [hfk']
            cases f with
            | none=>cases ok <;> simp [hzv]
            | some p=>cases ok <;> simp
          | some r=>
            obtain ⟨clock,hr⟩:=hes;subst hw;have hg:(getObj r).run P w=.ok (.map es clock) w:=by simp [getObj,Sem.run,hr]
            simp only [Sem.run_bind,run_underlying hT,Result.andThen_ok,hck,hg]
            cases f with
            | none=>cases ok <;> simp [hzv,hfk,hck]
            | some p=>cases ok <;> simp [hfk,hck]
         simp only [execOp,hop,bg ha hx,bg ha hi,Sem.run_bind,hrun,Result.andThen_ok,Sem.run_pure]
       · exact H.elim
   · exact H.elim
 · -- len
   rename_i args argTypes hop;obtain ⟨vs,hvs,H1⟩:=ee H;clear H;split at H1
   · rename_i T m hat;split at H1
     · rename_i kt et hT;obtain ⟨es,hes,H⟩:=H1;refine ⟨_,fun ac w ha hw=>?_,H⟩;have e1:args.map ac.eval=#[.map m]:=by
        have:=hvs ac ha;apply Array.ext';simpa using this
       have e2:argTypes=#[T]:=Array.ext' (by simpa using hat);subst e2;simp only [execOp,hop,resolve,invoke,builtin,e1,Sem.run_bind,Sem.run_pure,Result.andThen_ok,Builtin.len_]
       cases m with
       | none=>simp only [eR] at hes; subst hes; simp [run_underlying hT,goInt]
       | some r=>
         obtain ⟨clock,hr⟩:=hes;subst hw;have hg:(getObj r).run P w=.ok (.map es clock) w:=by simp [getObj,Sem.run,hr]
         simp [run_underlying hT,hg,goInt]
     · exact H1.elim
   · exact re (by intro cs b; rw [hop]; simp) H1
 · refine re (fun cs b hcs=>?_) H;rw [hcs] at hq;cases hq
variable {base:List Deferred}
def CW (isS:Bool) (v:Value) (K:Value→Prop):Prop:=
 (v=.tuple #[.bool false]∧K (.tuple #[.bool false]))∨
 cond isS (∃ i c:Int,v=.tuple #[.bool true,.int .i64 i,.int .i32 c]∧K (.tuple #[.bool true,.int .i64 i,.int .i32 c]))
  (∃ k x:Value,v=.tuple #[.bool true,k,x]∧K (.tuple #[.bool true,k,x]))
theorem tk {isS:Bool} {v:Value} {K:Value→Prop} (h:CW isS v K):K v:=by
 rcases h with ⟨rfl,h⟩ | h
 · exact h
 · cases isS with
   | true=>obtain ⟨i,c,rfl,h⟩:=h; exact h
   | false=>obtain ⟨k,x,rfl,h⟩:=h; exact h
def HN (P:Program) (n:Nat) (et:List TypeId) (o:Oper) (φ:Fr) (h:Heap) (K:Value→Heap→Prop):Prop:=
 match o.op with
 | .call { callee:=.value f,args,.. }=>rd n φ f fun vf=>yz n φ args.toList fun vs=>du P vf vs h fun v h'=>dec P o.type v fun v=>K v h'
 | .call { callee:=.builtin .append,args,argTypes }=>yz n φ args.toList fun vs=>bB P (append_ argTypes o.type vs.toArray) h fun v h'=>dec P o.type v fun v=>K v h'
 | .call { callee:=.builtin .copy,args,argTypes }=>yz n φ args.toList fun vs=>bB P (Builtin.copy_ argTypes o.type vs.toArray) h fun v h'=>dec P o.type v fun v=>K v h'
 | .call { callee:=.builtin .delete,args,argTypes }=>yz n φ args.toList fun vs=>bB P (Builtin.delete_ argTypes o.type vs.toArray) h fun v h'=>K v h'
 | .convert s d x=>rd n φ x fun v=>bB P (Go.convert s d v) h fun v h'=>dec P d v fun v=>K v h'
 | .makeSlice T l c=>rd n φ l fun vl=>rd n φ c fun vc=>bB P (Instr.makeSlice T vl vc) h fun v h'=>dec P T v fun v=>K v h'
 | .range T x=>rd n φ x fun v=>bB P (Instr.range T v) h fun v h'=>∃ p:Option Addr,v=.pointer p∧K (.pointer p) h'
 | .next it isS=>rd n φ it fun v=>bB P (Instr.next v isS o.type) h fun v h'=>CW isS v fun v=>K v h'
 | .entry it=>rd n φ it fun v=>bB P (Instr.entry v) h fun v h'=>DH P et fun l=>v=.tuple l.toArray∧K (.tuple l.toArray) h'
 | .mapUpdate T m k x=>rd n φ m fun vm=>rd n φ k fun vk=>rd n φ x fun vx=>qh P (Instr.mapUpdate T vm vk vx) h fun h'=>K undef h'
 | .insert T m k x=>rd n φ m fun vm=>rd n φ k fun vk=>rd n φ x fun vx=>qh P (Instr.mapUpdate T vm vk vx) h fun h'=>K undef h'
 | .mapEntry T m k=>rd n φ m fun vm=>rd n φ k fun vk=>bB P (Instr.mapEntry T vm vk) h fun v h'=>DH P et fun l=>v=.tuple l.toArray∧K (.tuple l.toArray) h'
 | .entryStore T m s x=>rd n φ m fun vm=>rd n φ s fun vs=>rd n φ x fun vx=>qh P (Instr.entryStore T vm vs vx) h fun h'=>K undef h'
 | _=>cond (jV n φ o.op.operands.toList) (mw P (execOp (E8 n φ) o) h fun nx h'=>match nx with
   | .value v=>K v h'
   | .skip=>K undef h'
   | _=>False) False
def iZ (o:Op):Bool:=
 match o with
 | .select ..=>false
 | .defer _=>false
 | _=>true
def rX (P:Program) (n:Nat) (et:List TypeId) (o:Oper) (φ:Fr) (h:Heap) (K:Value→Heap→Prop):Prop:=
 cond (iZ o.op) (cond (E5 P o.op) (Hr P n o φ h fun v=>K v h) (HN P n et o φ h K)) False
theorem mt {r:Option Nat} {n:Nat} {P:Program} {f:FuncId} {args:Array Value} {w:World} {R:Ending→World→Prop} (h:CallsIn Fence.wide n P f args w R):CallsIn (FW r) n P f args w R:=h
theorem Ax {r:Option Nat} {n:Nat} {P:Program} {l:Nat} {f:FuncId} {tmps:Array Value} {a b:Code} {w:World} {R:Ending→World→Prop} (h:RoundIn Fence.wide n P l f tmps a b w R):RoundIn (FW r) n P l f tmps a b w R:=h
theorem kR {r:Option Nat} {n:Nat}:(FW r).depth.isSome=true→1≤n:=fun h=>by cases h
section
variable {P:Program} {n:Nat} {et:List TypeId} {o:Oper} {φ:Fr} {h:Heap} {a:Act} {w:World} {r:Option Nat} {next:Act→World→Prop} {Q:Exit→Act→World→Prop}
theorem kd (hs:iZ o.op=true):Oper.semAt (FW r).round a.eval o=execOp a.eval o:=
 Oper.semAt_eq _ _ _ fun c hc=>by rw [hc] at hs; cases hs
theorem dv (hs:iZ o.op=true) {v:Value} {w':World} (hr:(execOp a.eval o).run P w=.ok (.value v) w') (hn:next (a.put o.dst v) w'):o.wpIn (FW r) 0 P a w next Q:=
 ⟨fun _ _=>trivial,by rw [kd hs,hr]; exact hn⟩
theorem ic (hs:iZ o.op=true) {w':World} (hr:(execOp a.eval o).run P w=.ok .skip w') (hn:next (a.put o.dst undef) w'):o.wpIn (FW r) 0 P a w next Q:=
 ⟨fun _ _=>trivial,by rw [kd hs,hr]; exact hn⟩
theorem yG {P:Program} {vf:Value} {vs:List Value} {h:Heap} {R:Value→Heap→Prop} (H:du P vf vs h R) (hw:w.heap=h) (hs:iZ o.op=true)
  (hr:execOp a.eval o=(do let d ← Deferred.ofValue vf vs.toArray; invoke d.target d.args)) (hn:∀ v w',R v w'.heap→fH w w'→next (a.put o.dst v) w'):o.wpIn (FW r) 0 P a w next Q:=by
 refine ⟨fun _ _=>trivial,?_⟩
 rw [kd hs,hr]
 unfold du at H
 split at H
 · rename_i f first cap
   have h1:(do let d ← Deferred.ofValue (.func (.func f) first cap) vs.toArray; invoke d.target d.args).run P w=.ok (.enter f (first.toList++vs++cap.toList).toArray) w:=by
    simp only [Deferred.ofValue,Sem.run_bind,Sem.run_pure,Result.andThen_ok,invoke];rw [show (first++vs.toArray++cap)=(first.toList++vs++cap.toList).toArray from Array.ext' (by simp)];exact gp H.1 _ _
   rw [h1];refine ⟨kR,mt (CallsIn.mono (H.2 w hw) fun e w' ⟨v,he,q,s⟩=>?_)⟩;subst he;exact hn v w' q s
 · rename_i l first cap
   obtain ⟨f,tmps,as,body,hy,hR⟩:=H w hw;have h1:(do let d ← Deferred.ofValue (.func (.yield l) first cap) vs.toArray; invoke d.target d.args).run P w=.ok (.round l f tmps as body) w:=by
    simp only [Deferred.ofValue,Sem.run_bind,Sem.run_pure,Result.andThen_ok,invoke];rw [show (first++vs.toArray)=(first.toList++vs).toArray from Array.ext' (by simp)];exact hy
   rw [h1];refine ⟨kR,Ax (RoundIn.mono hR fun e w' ⟨v,he,q,s⟩=>?_)⟩;subst he;exact hn v w' q s
 · exact H.elim
theorem wJ {K:Value→Heap→Prop} (hs:iZ o.op=true) (H:HN P n et o φ h K) (ha:FA base n φ a) (hw:w.heap=h)
  (hn:∀ v w',K v w'.heap→fH w w'→next (a.put o.dst v) w'):o.wpIn (FW r) 0 P a w next Q:=by
 have vals:∀ {xs:Array Operand} {vs:List Value},(∀ {base:List Deferred} (a:Act),FA base n φ a→xs.toList.map a.eval=vs)→xs.map a.eval=vs.toArray:=fun hvs=>by
  rw [← hvs a ha]; apply Array.ext'; simp
 unfold HN at H
 split at H
 · rename_i f args _ hop;obtain ⟨vf,hf,H1⟩:=bw H;obtain ⟨vs,hvs,H2⟩:=ee H1;refine yG H2 hw hs ?_ (fun v w' q s=>hn v w' (eF q) s);simp only [execOp,hop,resolve,bg ha hf,vals hvs]
 · rename_i args argTypes hop;obtain ⟨vs,hvs,H1⟩:=ee H;obtain ⟨v,w',hr,s,q⟩:=H1 w hw;refine dv hs (v:=v) (w':=w') ?_ (hn v w' (eF q) s);simp only [execOp,hop,resolve,invoke,builtin,vals hvs,Sem.run_bind,Sem.run_pure,Result.andThen_ok,hr]
 · rename_i args argTypes hop;obtain ⟨vs,hvs,H1⟩:=ee H;obtain ⟨v,w',hr,s,q⟩:=H1 w hw;refine dv hs (v:=v) (w':=w') ?_ (hn v w' (eF q) s);simp only [execOp,hop,resolve,invoke,builtin,vals hvs,Sem.run_bind,Sem.run_pure,Result.andThen_ok,hr]
 · rename_i args argTypes hop;obtain ⟨vs,hvs,H1⟩:=ee H;obtain ⟨v,w',hr,s,q⟩:=H1 w hw;refine dv hs (v:=v) (w':=w') ?_ (hn v w' q s);simp only [execOp,hop,resolve,invoke,builtin,vals hvs,Sem.run_bind,Sem.run_pure,Result.andThen_ok,hr]
 · rename_i sT dT x hop;obtain ⟨vx,hx,H1⟩:=bw H;obtain ⟨v,w',hr,s,q⟩:=H1 w hw;refine dv hs (v:=v) (w':=w') ?_ (hn v w' (eF q) s);simp only [execOp,hop,bg ha hx,Sem.run_bind,Sem.run_pure,Result.andThen_ok,hr]
 · rename_i T l c hop;obtain ⟨vl,hl,H1⟩:=bw H;obtain ⟨vc,hc,H2⟩:=bw H1;obtain ⟨v,w',hr,s,q⟩:=H2 w hw;refine dv hs (v:=v) (w':=w') ?_ (hn v w' (eF q) s);simp only [execOp,hop,bg ha hl,bg ha hc,Sem.run_bind,Sem.run_pure,Result.andThen_ok,hr]
 · rename_i T x hop;obtain ⟨vx,hx,H1⟩:=bw H;obtain ⟨v,w',hr,s,p,rfl,q⟩:=H1 w hw;refine dv hs (w':=w') ?_ (hn _ w' q s);simp only [execOp,hop,bg ha hx,Sem.run_bind,Sem.run_pure,Result.andThen_ok,hr]
 · rename_i it isS hop;obtain ⟨vx,hx,H1⟩:=bw H;obtain ⟨v,w',hr,s,q⟩:=H1 w hw;refine dv hs (w':=w') ?_ (hn _ w' (tk q) s);simp only [execOp,hop,bg ha hx,Sem.run_bind,Sem.run_pure,Result.andThen_ok,hr]
 · rename_i it hop;obtain ⟨vx,hx,H1⟩:=bw H;obtain ⟨v,w',hr,s,q⟩:=H1 w hw;obtain ⟨l,e,q⟩:=jy q;refine dv hs (w':=w') ?_ (hn v w' (e▸q) s);simp only [execOp,hop,bg ha hx,Sem.run_bind,Sem.run_pure,Result.andThen_ok,hr]
 · rename_i T m k x hop;obtain ⟨vm,hm,H1⟩:=bw H;obtain ⟨vk,hk,H2⟩:=bw H1;obtain ⟨vx,hx,H3⟩:=bw H2;obtain ⟨w',hr,s,q⟩:=H3 w hw;refine ic hs (w':=w') ?_ (hn _ w' q s);simp only [execOp,hop,bg ha hm,bg ha hk,bg ha hx,Sem.run_bind,Sem.run_pure,Result.andThen_ok,hr]
 · rename_i T m k x hop;obtain ⟨vm,hm,H1⟩:=bw H;obtain ⟨vk,hk,H2⟩:=bw H1;obtain ⟨vx,hx,H3⟩:=bw H2;obtain ⟨w',hr,s,q⟩:=H3 w hw;refine ic hs (w':=w') ?_ (hn _ w' q s);simp only [execOp,hop,bg ha hm,bg ha hk,bg ha hx,Sem.run_bind,Sem.run_pure,Result.andThen_ok,hr]
 · rename_i T m k hop;obtain ⟨vm,hm,H1⟩:=bw H;obtain ⟨vk,hk,H2⟩:=bw H1;obtain ⟨v,w',hr,s,q⟩:=H2 w hw;obtain ⟨l,e,q⟩:=jy q;refine dv hs (w':=w') ?_ (hn v w' (e▸q) s);simp only [execOp,hop,bg ha hm,bg ha hk,Sem.run_bind,Sem.run_pure,Result.andThen_ok,hr]
 · rename_i T m st x hop;obtain ⟨vm,hm,H1⟩:=bw H;obtain ⟨vk,hk,H2⟩:=bw H1;obtain ⟨vx,hx,H3⟩:=bw H2;obtain ⟨w',hr,s,q⟩:=H3 w hw;refine ic hs (w':=w') ?_ (hn _ w' q s);simp only [execOp,hop,bg ha hm,bg ha hk,bg ha hx,Sem.run_bind,Sem.run_pure,Result.andThen_ok,hr]
 · cases hr:jV n φ o.op.operands.toList with
   | false=>rw [hr] at H; exact H.elim
   | true=>
     rw [hr] at H;obtain ⟨x,w',hx,s,H⟩:=vj H w hw;have hsel:∀ cs b,o.op≠.select cs b:=fun cs b hc=>by rw [hc] at hs; cases hs
     rw [← q4 hsel hr ha] at hx;cases x <;> simp only [] at H <;> first | exact H.elim | skip
     · exact dv hs hx (hn _ w' H s)
     · exact ic hs hx (hn _ w' H s)
theorem jN {K:Value→Heap→Prop} (H:rX P n et o φ h K) (ha:FA base n φ a) (hw:w.heap=h)
  (hn:∀ v w',K v w'.heap→fH w w'→next (a.put o.dst v) w'):o.wpIn (FW r) 0 P a w next Q:=by
 unfold rX at H
 cases hs:iZ o.op with
 | false=>rw [hs] at H; exact H.elim
 | true=>
   rw [hs] at H
   cases hq:E5 P o.op with
   | true=>
     rw [hq] at H;obtain ⟨v,hv,H⟩:=mM hq H;exact dv hs (hv a w ha hw) (hn v w (hw▸H) (.refl w))
   | false=>
     rw [hq] at H;exact wJ hs H ha hw hn
end
def q6 (ops:Array Oper) (j:Nat):Option Tmp:=(ops[j]?).bind (·.dst)
def j0 (P:Program) (n:Nat) (et:List TypeId) (ops:Array Oper):List Oper→Fr→Heap→(Fr→Heap→Prop)→Prop
 | [],φ,h,K=>K φ h
 | o::rest,φ,h,K=>
   match o.guard with
   | none=>rX P n et o φ h fun v h'=>j0 P n et ops rest (φ.put o.dst v) h' K
   | some (j,want)=>
     match q6 ops j with
     | none=>False
     | some d=>
       match ev n φ (.tmp d) with
       | some (.bool t)=>cond t
         (cond want (rX P n et o (φ.put (some d) (.bool true)) h fun v h'=>j0 P n et ops rest ((φ.put (some d) (.bool true)).put o.dst v) h' K)
          (j0 P n et ops rest ((φ.put (some d) (.bool true)).put o.dst undef) h K))
         (cond want (j0 P n et ops rest ((φ.put (some d) (.bool false)).put o.dst undef) h K)
          (rX P n et o (φ.put (some d) (.bool false)) h fun v h'=>j0 P n et ops rest ((φ.put (some d) (.bool false)).put o.dst v) h' K))
       | some (.tuple _)=>j0 P n et ops rest (φ.put o.dst undef) h K
       | _=>False
theorem FA.again {n:Nat} {φ:Fr} {a:Act} (h:FA base n φ a) {d:Tmp} {v:Value} (hv:ev n φ (.tmp d)=some v):FA base n (φ.put (some d) v) a:=by
 refine ⟨h.defers,h.size,fun t u hu ht=>?_⟩
 simp only [Fr.put] at hu
 cases hb:Nat.beq t d with
 | false=>rw [hb] at hu; exact h.slots t u hu ht
 | true=>
   rw [hb] at hu;obtain rfl:=Nat.eq_of_beq_eq_true hb;simp only [ae,Option.some.injEq] at hu;subst hu;simp only [ev] at hv
   cases hb:Nat.blt t n with
   | false=>rw [hb] at hv; cases hv
   | true=>rw [hb] at hv; exact h.slots t v hv ht
theorem kp {n:Nat} {φ:Fr} {a:Act} (h:FA base n φ a) {d:Tmp} {v:Value} (hv:ev n φ (.tmp d)=some v):a.tmps[d]? = some v:=by
 simp only [ev] at hv
 cases hb:Nat.blt d n with
 | false=>rw [hb] at hv; cases hv
 | true=>rw [hb] at hv; exact h.slots d v hv (by have:=Nat.le_of_ble_eq_true hb; omega)
theorem fV {ops:Array Oper} {o:Oper} {tmps:Array Value} {j:Nat} {want:Bool} {d:Tmp} (hg:o.guard=some (j,want)) (hd:q6 ops j=some d) {v:Value} (hv:tmps[d]? = some v) :
  Region.wanted o (yielded ops tmps)=(match v with
   | .bool b=>b==want
   | _=>false):=by
 unfold q6 at hd
 simp only [Region.wanted,hg,yielded,hd,Option.bind_some,hv]
 cases v <;> simp
def aV (m t:Nat):Bool:=Nat.beq (Nat.land (Nat.shiftRight m t) 1) 1
def df (m:Nat) (a a':Act):Prop:=∀ t,aV m t=false→a'.tmps[t]? = a.tmps[t]?
theorem df.refl (m:Nat) (a:Act):df m a a:=fun _ _=>rfl
theorem df.trans {m:Nat} {a b c:Act} (h:df m a b) (k:df m b c):df m a c:=fun t ht=>(k t ht).trans (h t ht)
theorem df.put {m:Nat} {a0 a:Act} (h:df m a0 a) {d:Option Tmp} (hd:∀ x,d=some x→aV m x=true) (v:Value):df m a0 (a.put d v):=by
 cases d with
 | none=>exact h
 | some d=>
   refine h.trans fun t ht=>?_;have:d≠t:=fun e=>by subst e; rw [hd d rfl] at ht; cases ht
   simp [Act.put,Array.getElem?_setIfInBounds_ne this]
theorem eW (m t:Nat):aV m t=m.testBit t:=by
 have h1:Nat.land (Nat.shiftRight m t) 1=(m >>> t)%2:=Nat.and_one_is_mod _
 have h2:m.testBit t=decide ((m >>> t)%2=1):=by
  rw [Nat.testBit_eq_decide_div_mod_eq,Nat.shiftRight_eq_div_pow]
 unfold aV
 rw [h1,h2]
 rcases Nat.mod_two_eq_zero_or_one (m >>> t) with h | h <;> rw [h] <;> rfl
theorem fD (a b t:Nat):aV (Nat.lor a b) t=(aV a t||aV b t):=by
 rw [eW,eW,eW]
 exact Nat.testBit_or a b t
theorem xe (d:Nat):aV (2^d) d=true:=by
 rw [eW]; simp
theorem df.mono {m m':Nat} {a a':Act} (h:df m a a') (hm:∀ t,aV m t=true→aV m' t=true):df m' a a':=fun t ht=>h t (by
 cases hb:aV m t with
 | false=>rfl
 | true=>rw [hm t hb] at ht; cases ht)
theorem df.left {m m':Nat} {a a':Act} (h:df m a a'):df (Nat.lor m m') a a':=h.mono fun t ht=>by rw [fD,ht]; rfl
theorem df.right {m m':Nat} {a a':Act} (h:df m' a a'):df (Nat.lor m m') a a':=h.mono fun t ht=>by rw [fD,ht]; simp
def dq (ops:List Oper):Nat:=ops.foldr (fun o m=>match o.dst with
 | some d=>Nat.lor m (2^d)
 | none=>m) 0
theorem iY:∀ {ops:List Oper} {o:Oper} {d:Tmp},o∈ops→o.dst=some d→aV (dq ops) d=true:=by
 intro ops
 induction ops with
 | nil=>intro o d h; cases h
 | cons x xs ih=>
   intro o d ho hd;simp only [dq,List.foldr_cons]
   rcases aA.1 ho with rfl | h
   · rw [hd]; simp only []; rw [fD,xe]; simp
   · have:=ih h hd
     cases hx:x.dst with
     | none=>exact this
     | some e=>simp only []; rw [fD]; unfold dq at this; rw [this]; rfl
theorem Fr.put_m (φ:Fr) (d:Option Tmp) (v:Value):(φ.put d v).m=φ.m:=by cases d <;> rfl
theorem th {P:Program} {n:Nat} {et:List TypeId} {ops:Array Oper} {r:Option Nat} {Q:Exit→Act→World→Prop} {K:Fr→Heap→Prop} {w0:World}
  {m:Nat} {a0:Act} {m0:List Nat} (hK:∀ φ a w,K φ w.heap→FA base n φ a→fH w0 w→df m a0 a→φ.m=m0→Q .normal a w) :
  ∀ (l:List Oper) (φ:Fr) (h:Heap) (a:Act) (w:World),(∀ o∈l,∀ d,o.dst=some d→aV m d=true)→j0 P n et ops l φ h K→FA base n φ a→w.heap=h→fH w0 w→df m a0 a→φ.m=m0→wpListIn (FW r) 0 P ops Q l a w:=by
 intro l
 induction l with
 | nil=>intro φ h a w _ H ha hw hs hag hm0; subst hw; exact hK φ a w H ha hs hag hm0
 | cons o rest ih=>
   intro φ h a w hm H ha hw hs hag hm0;have hmo:=hm o (by simp);have hmr:∀ o∈rest,∀ d,o.dst=some d→aV m d=true:=fun o ho=>hm o (by simp [ho]);have run:∀ φ',φ'.m=m0→FA base n φ' a→(rX P n et o φ' h fun v h'=>j0 P n et ops rest (φ'.put o.dst v) h' K)→o.wpIn (FW r) 0 P a w (wpListIn (FW r) 0 P ops Q rest) Q:=fun φ' hm' ha' H'=>
    jN H' ha' hw fun v w' q s=>ih _ _ _ _ hmr q (ha'.put _ _) rfl (hs.trans s) (hag.put hmo _) ((Fr.put_m _ _ _).trans hm')
   have bF:∀ φ',φ'.m=m0→FA base n φ' a→(j0 P n et ops rest (φ'.put o.dst undef) h K)→wpListIn (FW r) 0 P ops Q rest (a.put o.dst undef) w:=fun φ' hm' ha' H'=>
    ih _ _ _ _ hmr H' (ha'.put _ _) hw hs (hag.put hmo _) ((Fr.put_m _ _ _).trans hm')
   unfold j0 at H;unfold wpListIn;split at H
   · rename_i hg;rw [an (by simp [Region.wanted,hg])];exact run φ hm0 ha H
   · rename_i j want hg;split at H
     · exact H.elim
     · rename_i d hd;split at H
       · rename_i t ht;have hw1:=fV hg hd (kp ha ht);simp only [] at hw1;rw [hw1];have ha':=ha.again ht;cases t <;> cases want <;> simp only [ae,ab] at H
         · exact an rfl▸run _ ((Fr.put_m _ _ _).trans hm0) ha' H
         · rw [am (by simp)]; exact ⟨fun _ _=>trivial,bF _ ((Fr.put_m _ _ _).trans hm0) ha' H⟩
         · rw [am (by simp)]; exact ⟨fun _ _=>trivial,bF _ ((Fr.put_m _ _ _).trans hm0) ha' H⟩
         · exact an rfl▸run _ ((Fr.put_m _ _ _).trans hm0) ha' H
       · rename_i vs ht;have hw1:=fV hg hd (kp ha ht);simp only [] at hw1;rw [hw1,am (by simp)];exact ⟨fun _ _=>trivial,bF φ hm0 ha H⟩
       · exact H.elim
theorem rR {P:Program} {n:Nat} {et:List TypeId} {ops:Array Oper} {id:Nat} {r:Option Nat} {Q:Exit→Act→World→Prop} {K:Fr→Heap→Prop} {φ:Fr} {h:Heap} {a:Act} {w:World}
  (H:j0 P n et ops ops.toList φ h K) (ha:FA base n φ a) (hw:w.heap=h) (hK:∀ φ' a' w',K φ' w'.heap→FA base n φ' a'→fH w w'→df (dq ops.toList) a a'→φ'.m=φ.m→Q .normal a' w'):(Code.region id ops false).wpIn (FW r) 0 P Q a w:=
 wpIn_region_list (th (w0:=w) (a0:=a) hK ops.toList φ h a w (fun o ho d hd=>iY ho hd) H ha hw (.refl w) (.refl _ a) rfl)
variable {base:List Deferred}
def nS (P:Program) (n:Nat) (o:Oper) (φ:Fr) (h:Heap) (K:Value→Prop):Prop:=
 match o.op with
 | .call { callee:=.value f,args,.. }=>rd n φ f fun vf=>yz n φ args.toList fun vs=>∃ v0,du P vf vs h (fun v h'=>v=v0∧h'=h)∧dec P o.type v0 K
 | _=>cond (E5 P o.op) (Hr P n o φ h K) False
def g7 (P:Program) (n:Nat) (ops:Array Oper):List Oper→Fr→Heap→(Fr→Prop)→Prop
 | [],φ,h,K=>K φ
 | o::rest,φ,h,K=>
   match o.guard with
   | none=>nS P n o φ h fun v=>g7 P n ops rest (φ.put o.dst v) h K
   | some (j,want)=>
     match q6 ops j with
     | none=>False
     | some d=>
       match ev n φ (.tmp d) with
       | some (.bool t)=>cond t
         (cond want (nS P n o (φ.put (some d) (.bool true)) h fun v=>g7 P n ops rest ((φ.put (some d) (.bool true)).put o.dst v) h K)
          (g7 P n ops rest ((φ.put (some d) (.bool true)).put o.dst undef) h K))
         (cond want (g7 P n ops rest ((φ.put (some d) (.bool false)).put o.dst undef) h K)
          (nS P n o (φ.put (some d) (.bool false)) h fun v=>g7 P n ops rest ((φ.put (some d) (.bool false)).put o.dst v) h K))
       | some (.tuple _)=>g7 P n ops rest (φ.put o.dst undef) h K
       | _=>False
def CC (w0:World) (h:Heap) (w:World):Prop:=w.heap=h∧fH w0 w
theorem p7 {P:Program} {o:Oper} {a:Act} {w0:World} {h:Heap} {next:Act→Prop} {v:Value}
  (hr:∀ w,w.heap=h→(execOp a.eval o).run P w=.ok (.value v) w) (hn:next (a.put o.dst v)):o.quietIn (FW none) 0 P a (CC w0 h) next:=
 ⟨v,fun w hw=>by unfold Oper.quietAtIn; rw [hr w hw.1]; exact ⟨rfl,rfl⟩,hn⟩
theorem lX {P:Program} {o:Oper} {a:Act} {w0:World} {h:Heap} {next:Act→Prop} {vf v0:Value} {vs:List Value}
  (H:du P vf vs h (fun v h'=>v=v0∧h'=h)) (hr:execOp a.eval o=(do let d ← Deferred.ofValue vf vs.toArray; invoke d.target d.args))
  (hn:next (a.put o.dst v0)) (hf:∀ l x y,vf≠.func (.yield l) x y):o.quietIn (FW none) 0 P a (CC w0 h) next:=by
 refine ⟨v0,fun w hw=>?_,hn⟩
 unfold Oper.quietAtIn
 rw [hr]
 unfold du at H
 split at H
 · rename_i f first cap
   have h1:(do let d ← Deferred.ofValue (.func (.func f) first cap) vs.toArray; invoke d.target d.args).run P w=.ok (.enter f (first.toList++vs++cap.toList).toArray) w:=by
    simp only [Deferred.ofValue,Sem.run_bind,Sem.run_pure,Result.andThen_ok,invoke];rw [show (first++vs.toArray++cap)=(first.toList++vs++cap.toList).toArray from Array.ext' (by simp)];exact gp H.1 _ _
   rw [h1];refine ⟨rfl,kR,mt (CallsIn.mono (H.2 w hw.1) fun e w' ⟨v,he,q,s⟩=>?_)⟩;exact ⟨by rw [he,q.1],q.2,hw.2.trans s⟩
 · exact absurd rfl (hf _ _ _)
 · exact H.elim
def vE (v:Value):Bool:=
 match v with
 | .func (.yield _) _ _=>false
 | _=>true
theorem uH {P:Program} {n:Nat} {o:Oper} {φ:Fr} {h:Heap} {a:Act} {w0:World} {K:Value→Prop} {next:Act→Prop}
  (H:nS P n o φ h K) (ha:FA base n φ a) (hs:iZ o.op=true) (hny:∀ f args ts,o.op=.call { callee:=.value f,args:=args,argTypes:=ts }→∀ v,ev n φ f=some v→vE v=true)
  (hn:∀ v,K v→next (a.put o.dst v)):o.quietIn (FW none) 0 P a (CC w0 h) next:=by
 unfold nS at H
 split at H
 · rename_i f args ts hop;obtain ⟨vf,hf,H1⟩:=bw H;obtain ⟨vs,hvs,v0,hc,hd⟩:=ee H1;refine lX hc ?_ (hn v0 (eF hd)) (fun l x y e=>?_)
   · have e1:args.map a.eval=vs.toArray:=by rw [← hvs a ha]; apply Array.ext'; simp
     simp only [execOp,hop,resolve,bg ha hf,e1]
   · have:=hny _ _ _ hop vf hf;rw [e] at this; cases this
 · cases hq:E5 P o.op with
   | false=>rw [hq] at H; exact H.elim
   | true=>
     rw [hq] at H;obtain ⟨v,hv,H⟩:=mM hq H;exact p7 (fun w hw=>hv a w ha hw) (hn v H)
def cS (o:Op):Bool:=
 match o with
 | .call { callee:=.value (.func _),.. }=>true
 | .call { callee:=.value _,.. }=>false
 | .select ..=>false
 | .defer _=>false
 | _=>true
theorem hO {o:Op} (h:cS o=true):iZ o=true:=by
 cases o <;> first | rfl | cases h
theorem jP {n:Nat} {φ:Fr} {o:Oper} (h:cS o.op=true) (f:Operand) (args:Array Operand) (ts:Array TypeId) (hop:o.op=.call { callee:=.value f,args:=args,argTypes:=ts }) (v:Value) (hv:ev n φ f=some v):vE v=true:=by
 rw [hop] at h
 cases f <;> simp only [cS,Bool.false_eq_true] at h
 simp only [ev,Option.some.injEq] at hv
 subst hv
 rfl
theorem rT {P:Program} {n:Nat} {ops:Array Oper} {h:Heap} {w0:World} {Q':Act→Prop} {K:Fr→Prop} {m:Nat} {a0:Act} {m0:List Nat} (hK:∀ φ a,K φ→FA base n φ a→df m a0 a→φ.m=m0→Q' a) :
  ∀ (l:List Oper) (φ:Fr) (a:Act),(∀ o∈l,∀ d,o.dst=some d→aV m d=true)→(∀ o∈l,cS o.op=true)→g7 P n ops l φ h K→FA base n φ a→df m a0 a→φ.m=m0→wpQuietIn (FW none) 0 P ops (CC w0 h) Q' l a:=by
 intro l
 induction l with
 | nil=>intro φ a _ _ H ha hag hm0; exact hK φ a H ha hag hm0
 | cons o rest ih=>
   intro φ a hm hcs H ha hag hm0;have hmo:=hm o (by simp);have hmr:∀ o∈rest,∀ d,o.dst=some d→aV m d=true:=fun o ho=>hm o (by simp [ho]);have hc:=hcs o (by simp);have hcs':∀ o∈rest,cS o.op=true:=fun o ho=>hcs o (by simp [ho]);have run:∀ φ',φ'.m=m0→FA base n φ' a→(nS P n o φ' h fun v=>g7 P n ops rest (φ'.put o.dst v) h K)→o.quietIn (FW none) 0 P a (CC w0 h) (wpQuietIn (FW none) 0 P ops (CC w0 h) Q' rest):=fun φ' hm' ha' H'=>
    uH H' ha' (hO hc) (jP hc) fun v q=>ih _ _ hmr hcs' q (ha'.put _ _) (hag.put hmo _) ((Fr.put_m _ _ _).trans hm')
   have bF:∀ φ',φ'.m=m0→FA base n φ' a→(g7 P n ops rest (φ'.put o.dst undef) h K)→wpQuietIn (FW none) 0 P ops (CC w0 h) Q' rest (a.put o.dst undef):=fun φ' hm' ha' H'=>
    ih _ _ hmr hcs' H' (ha'.put _ _) (hag.put hmo _) ((Fr.put_m _ _ _).trans hm')
   unfold g7 at H;unfold wpQuietIn;refine ⟨fun _ _ _ _=>trivial,?_⟩;split at H
   · rename_i hg;rw [an (by simp [Region.wanted,hg])];exact run φ hm0 ha H
   · rename_i j want hg;split at H
     · exact H.elim
     · rename_i d hd;split at H
       · rename_i t ht;have hw1:=fV hg hd (kp ha ht);simp only [] at hw1;rw [hw1];have ha':=ha.again ht;cases t <;> cases want <;> simp only [ae,ab] at H
         · exact an rfl▸run _ ((Fr.put_m _ _ _).trans hm0) ha' H
         · rw [am (by simp)]; exact bF _ ((Fr.put_m _ _ _).trans hm0) ha' H
         · rw [am (by simp)]; exact bF _ ((Fr.put_m _ _ _).trans hm0) ha' H
         · exact an rfl▸run _ ((Fr.put_m _ _ _).trans hm0) ha' H
       · rename_i vs ht;have hw1:=fV hg hd (kp ha ht);simp only [] at hw1;rw [hw1,am (by simp)];exact bF φ hm0 ha H
       · exact H.elim
theorem lk {P:Program} {ops:Array Oper} {Q:Exit→Act→World→Prop} {r:Option Nat} (hs:∀ (i:Nat) (o:Oper),ops[i]? = some o→iZ o.op=true) :
  ∀ (l:List Nat) (a:Act) (w:World),wpOpsIn (FW none) 0 P ops Q l a w→wpOpsIn (FW r) 0 P ops Q l a w:=by
 intro l
 induction l with
 | nil=>exact fun a w h=>h
 | cons i rest ih=>
   intro a w h;simp only [wpOpsIn] at h ⊢
   cases ho:ops[i]? with
   | none=>rw [ho] at h; exact ih a w h
   | some o=>
     rw [ho] at h;simp only [] at h ⊢;split
     · rename_i hw;rw [an hw] at h;have h2:=Oper.wpIn_mono (fun a w=>ih a w) h;refine ⟨fun _ _=>trivial,?_⟩;have h3:=h2.2;rw [kd (r:=none) (hs i o ho)] at h3;rw [kd (hs i o ho)];exact h3
     · rename_i hw;rw [am hw] at h;exact ⟨fun _ _=>trivial,ih _ _ h.2⟩
theorem vd {P:Program} {n:Nat} {ops:Array Oper} {id:Nat} {r:Option Nat} {Q:Exit→Act→World→Prop} {K:Fr→Prop} {φ:Fr} {h:Heap} {a:Act} {w:World}
  (hm:P.follows .mixedOrders=true) (hB:Region.lexB .any ops=true) (hc:ops.all (fun o=>cS o.op)=true)
  (H:g7 P n ops ops.toList φ h K) (ha:FA base n φ a) (hw:w.heap=h) (hK:∀ φ' a' w',K φ'→FA base n φ' a'→w'.heap=h→fH w w'→df (dq ops.toList) a a'→φ'.m=φ.m→Q .normal a' w') :
  (Code.region id ops true).wpIn (FW r) 0 P Q a w:=by
 have hall:∀ o∈ops.toList,cS o.op=true:=fun o ho=>Array.all_eq_true'.1 hc o (by simpa using ho)
 refine wpIn_region_draw fun t=>lk (fun i o ho=>hO (hall o (by simpa using Array.mem_of_getElem? ho))) _ _ _ ?_
 simp only [Region.schedule,hm,Bool.true_or,if_true]
 refine wpAnyIn_sound ops.size t _ a _ ?_
 simp only [Region.lexB,ay] at hB
 refine wpAnyIn_of_quiet (F:=FW none) (C:=CC w h) (Q:=fun a'=>∀ w',CC w h w'→Q .normal a' w') rfl (fun _ w' hw' h=>h w' hw') _ _ _ _ ⟨hw,rfl,rfl,rfl⟩ ?_
 have h1:wpQuietIn (FW none) 0 P ops (CC w h) (fun a'=>∀ w',CC w h w'→Q .normal a' w') ops.toList a:=
  rT (Q':=fun a'=>∀ w',CC w h w'→Q .normal a' w') (m:=dq ops.toList) (a0:=a) (m0:=φ.m) (fun φ a q hf hag hm w' hw'=>hK φ a w' q hf hw'.1 hw'.2 hag hm) ops.toList φ a (fun o ho d hd=>iY ho hd) hall H ha (.refl _ a) rfl
 have:=wpAnyQIn_lex (F:=FW none) (n:=0) (C:=CC w h) (md:=.any) hB.1 ops.toList 0 (Array.replicate ops.size false) a (by simp) (by simpa using hB.2) h1
 simpa using this
variable {base:List Deferred}
structure fU where
 bef:List Nat
 eff:Nat
def fU.befOf (p:fU) (i:Nat):Nat:=p.bef.getD i 0
def oq (a b:Nat):Bool:=Nat.beq (Nat.land a b) a
def de (ops:List Oper) (k m:Nat):Nat:=
 match ops with
 | []=>0
 | o::rest=>match o.dst with
   | some d=>bif aV m k then Nat.lor (2^d) (de rest (k+1) m) else de rest (k+1) m
   | none=>de rest (k+1) m
def fj (ops:Array Oper) (m:Nat) (φ:Fr):Fr:=
 { s:=fun t=>bif aV (dq ops.toList) t && !aV (de ops.toList 0 m) t then none else φ.s t
   m:=φ.m }
def aJ (x:Option Value) (u:Value):Prop:=x=some u
def HQ (φ:Fr) (d:Option Tmp) (u:Value):Prop:=
 match d with
 | some d=>aJ (φ.s d) u
 | none=>True
def tw (p:fU) (i:Nat):List Oper→Nat→Tmp→Bool
 | [],_,_=>false
 | o::rest,k,t=>(match o.dst with
   | some d=>Nat.beq d t&&aV (p.befOf k) i
   | none=>false)||tw p i rest (k+1) t
def over (p:fU) (ops:Array Oper) (i:Nat) (φ0 ψ:Fr):Fr:=
 { s:=fun t=>match ψ.s t with
    | some v=>some v
    | none=>bif tw p i ops.toList 0 t then φ0.s t else none
   m:=ψ.m }
def gq (P:Program) (n:Nat) (ops:Array Oper) (p:fU) (i:Nat) (φ0:Fr) (o:Oper) (φ:Fr) (h:Heap) (K:Fr→Value→Prop):Prop:=
 match o.guard with
 | none=>nS P n o (over p ops i φ0 (fj ops (p.befOf i) φ)) h fun v=>K φ v
 | some (j,want)=>
   match q6 ops j with
   | none=>False
   | some d=>
     match ev n (fj ops (p.befOf i) φ) (.tmp d) with
     | some (.bool t)=>cond t
       (cond want (nS P n o (over p ops i φ0 (fj ops (p.befOf i) (φ.put (some d) (.bool true)))) h fun v=>K (φ.put (some d) (.bool true)) v) (K (φ.put (some d) (.bool true)) undef))
       (cond want (K (φ.put (some d) (.bool false)) undef) (nS P n o (over p ops i φ0 (fj ops (p.befOf i) (φ.put (some d) (.bool false)))) h fun v=>K (φ.put (some d) (.bool false)) v))
     | some (.tuple _)=>K φ undef
     | _=>False
def gE (P:Program) (n:Nat) (et:List TypeId) (ops:Array Oper) (p:fU) (i:Nat) (φ0:Fr) (o:Oper) (φ:Fr) (h:Heap) (K:Fr→Value→Heap→Prop):Prop:=
 match o.guard with
 | none=>rX P n et o (over p ops i φ0 (fj ops (p.befOf i) φ)) h fun v h'=>K φ v h'
 | some (j,want)=>
   match q6 ops j with
   | none=>False
   | some d=>
     match ev n (fj ops (p.befOf i) φ) (.tmp d) with
     | some (.bool t)=>cond t
       (cond want (rX P n et o (over p ops i φ0 (fj ops (p.befOf i) (φ.put (some d) (.bool true)))) h fun v h'=>K (φ.put (some d) (.bool true)) v h') (K (φ.put (some d) (.bool true)) undef h))
       (cond want (K (φ.put (some d) (.bool false)) undef h) (rX P n et o (over p ops i φ0 (fj ops (p.befOf i) (φ.put (some d) (.bool false)))) h fun v h'=>K (φ.put (some d) (.bool false)) v h'))
     | some (.tuple _)=>K φ undef h
     | _=>False
def ny (p:fU) (past:Nat):Nat→Nat→Option Nat
 | 0,_=>none
 | f+1,i=>bif !aV past i && !aV p.eff i&&oq (p.befOf i) past then some i else ny p past f (i+1)
def tm (p:fU) (past:Nat):Nat→Nat→List Nat
 | 0,_=>[]
 | f+1,i=>bif !aV past i&&aV p.eff i&&oq (p.befOf i) past then i::tm p past f (i+1) else tm p past f (i+1)
def again (P:Program) (n:Nat) (ops:Array Oper) (p:fU) (φ0:Fr) (past b:Nat) (φ:Fr) (h:Heap):Nat→Nat→Prop→Prop
 | 0,_,K=>K
 | f+1,i,K=>bif aV past i && !aV p.eff i && !aV b i then
    match ops[i]? with
    | some o=>gq P n ops p i φ0 o φ h (fun φ' u=>HQ φ' o.dst u)∧again P n ops p φ0 past b φ h f (i+1) K
    | none=>False
   else again P n ops p φ0 past b φ h f (i+1) K
def ze:List Nat→(Nat→Prop)→Prop
 | [],_=>False
 | [i],f=>f i
 | i::j::r,f=>f i∧ze (j::r) f
def zd (P:Program) (n:Nat) (et:List TypeId) (ops:Array Oper) (p:fU) (φ0:Fr):(fuel:Nat)→(past:Nat)→Fr→Heap→(Fr→Heap→Prop)→Prop
 | 0,_,_,_,_=>False
 | fuel+1,past,φ,h,K=>
   match ny p past ops.size 0 with
   | some i=>match ops[i]? with
     | some o=>gq P n ops p i φ0 o φ h fun φ' v=>zd P n et ops p φ0 fuel (Nat.lor past (2^i)) (φ'.put o.dst v) h K
     | none=>False
   | none=>bif Nat.beq past (2^ops.size - 1) then K φ h else
     ze (tm p past ops.size 0) fun i=>match ops[i]? with
      | some o=>gE P n et ops p i φ0 o φ h fun φ' v h'=>again P n ops p φ0 past (p.befOf i) (φ'.put o.dst v) h' ops.size 0 (zd P n et ops p φ0 fuel (Nat.lor past (2^i)) (φ'.put o.dst v) h' K)
      | none=>False
def gm:List Nat→Bool
 | []=>true
 | x::r => !r.any (Nat.beq x)&&gm r
def planOf (p:fU) (o:Oper):Nat:=o.after.toList.foldr (fun e s=>bif Region.binds .any e then Nat.lor (Nat.lor (2^e.on) (p.befOf e.on)) s else s) 0
def kh (p:fU):List Oper→Nat→Bool
 | [],_=>true
 | o::rest,i=>Nat.beq (p.befOf i) (planOf p o)&&o.after.toList.all (fun e => !Region.binds .any e||Nat.blt e.on i)&&(bif aV p.eff i then iZ o.op else cS o.op)&&kh p rest (i+1)
def jb (p:fU) (ops:Array Oper):Bool:=kh p ops.toList 0&&gm (ops.toList.filterMap (fun o:Oper=>o.dst))
theorem sR {a b:Nat}:oq a b=true↔∀ i,aV a i=true→aV b i=true:=by
 unfold oq
 constructor
 · intro h i hi;have e:=Nat.eq_of_beq_eq_true h;rw [eW] at hi ⊢;have:=congrArg (fun x=>x.testBit i) e;simp only [show Nat.land a b=a &&& b from rfl,Nat.testBit_and,hi,Bool.true_and] at this;exact this
 · intro h;have:Nat.land a b=a:=by
    apply Nat.eq_of_testBit_eq;intro i;rw [show Nat.land a b=a &&& b from rfl,Nat.testBit_and]
    cases ha:a.testBit i with
    | false=>rfl
    | true=>
      have:=h i (by rw [eW]; exact ha);rw [eW] at this;rw [this]; rfl
   rw [this];exact Nat.beq_refl a
theorem gO (i j:Nat):aV (2^i) j=true↔i=j:=by
 rw [eW,Nat.testBit_two_pow]
 simp
theorem iN (j:Nat):aV 0 j=false:=by rw [eW]; simp
theorem bi {m i j:Nat}:aV (Nat.lor m (2^i)) j=true↔aV m j=true∨j=i:=by
 rw [fD,Bool.or_eq_true,gO]
 constructor <;> rintro (h | h) <;> first | exact .inl h | exact .inr h.symm
theorem qb (o:Oper) (l:List Oper) (k m:Nat):de (o::l) k m=match o.dst with
 | some d=>bif aV m k then Nat.lor (2^d) (de l (k+1) m) else de l (k+1) m
 | none=>de l (k+1) m:=rfl
theorem fA:∀ (l:List Oper) (k m t:Nat),aV (de l k m) t=true↔∃ i o,l[i]? = some o∧aV m (k+i)=true∧o.dst=some t
 | [],k,m,t=>by simp [de,iN]
 | o::l,k,m,t=>by
   have ih:=fA l (k+1) m t;have shift:(∃ i o',(o::l)[i]? = some o'∧aV m (k+i)=true∧o'.dst=some t)↔(aV m k=true∧o.dst=some t)∨∃ i o',l[i]? = some o'∧aV m (k+1+i)=true∧o'.dst=some t:=by
    constructor
    · rintro ⟨i,o',h1,h2,h3⟩
      cases i with
      | zero=>simp at h1; subst h1; exact .inl ⟨h2,h3⟩
      | succ i=>exact .inr ⟨i,o',by simpa using h1,by rw [Nat.add_assoc,Nat.add_comm 1]; exact h2,h3⟩
    · rintro (⟨h2,h3⟩ | ⟨i,o',h1,h2,h3⟩)
      · exact ⟨0,o,by simp,h2,h3⟩
      · exact ⟨i+1,o',by simpa using h1,by rw [Nat.add_assoc,Nat.add_comm 1] at h2; exact h2,h3⟩
   rw [shift,← ih,qb]
   cases hd:o.dst with
   | none=>simp
   | some d=>
     simp only []
     cases hb:aV m k with
     | false=>simp
     | true=>
       rw [ae,fD,Bool.or_eq_true,gO];simp [Option.some.injEq]
theorem nw {l:List Oper} {t:Nat}:aV (dq l) t=true↔∃ o∈l,o.dst=some t:=by
 constructor
 · induction l with
   | nil=>intro h; rw [dq,List.foldr_nil,iN] at h; cases h
   | cons o l ih=>
     intro h;simp only [dq,List.foldr_cons] at h
     cases hd:o.dst with
     | none=>rw [hd] at h; obtain ⟨o',h1,h2⟩:=ih h; exact ⟨o',by simp [h1],h2⟩
     | some d=>
       rw [hd] at h;simp only [] at h;rw [fD,Bool.or_eq_true,gO] at h
       rcases h with h | h
       · obtain ⟨o',h1,h2⟩:=ih h; exact ⟨o',by simp [h1],h2⟩
       · exact ⟨o,by simp,by rw [hd,h]⟩
 · rintro ⟨o,ho,hd⟩;exact iY ho hd
section
variable {P:Program} {n:Nat} {et:List TypeId} {ops:Array Oper} {p:fU}
theorem nt:∀ (l:List Oper) (k i:Nat) (o:Oper),kh p l k=true→l[i]? = some o→p.befOf (k+i)=planOf p o∧(∀ e∈o.after.toList,Region.binds .any e=true→e.on<k+i)∧(aV p.eff (k+i)=false→cS o.op=true)∧iZ o.op=true
 | [],_,_,_,_,h=>by simp at h
 | x::l,k,0,o,hp,h=>by
   simp at h; subst h;simp only [kh,ay,List.all_eq_true] at hp;refine ⟨Nat.eq_of_beq_eq_true hp.1.1.1,fun e he hb=>?_,?_⟩
   · have:=hp.1.1.2 e he;rw [hb] at this;simp only [aB,Bool.false_or] at this;have:=Nat.le_of_ble_eq_true this;omega
   · have h1:=hp.1.2;rw [Nat.add_zero]
     cases hb:aV p.eff k with
     | true=>rw [hb] at h1; exact ⟨fun e=>(by cases e),h1⟩
     | false=>rw [hb] at h1; exact ⟨fun _=>h1,hO h1⟩
 | x::l,k,i+1,o,hp,h=>by
   simp only [kh,ay] at hp;have:=nt l (k+1) i o hp.2 (by simpa using h)
   rwa [show k+1+i=k+(i+1) by omega] at this
theorem uF {o:Oper} {j:Nat}:aV (planOf p o) j=true↔∃ e∈o.after.toList,Region.binds .any e=true∧(j=e.on∨aV (p.befOf e.on) j=true):=by
 unfold planOf
 induction o.after.toList with
 | nil=>simp [iN]
 | cons e l ih=>
   simp only [List.foldr_cons]
   cases hb:Region.binds .any e with
   | false=>
     rw [ab,ih];constructor
     · rintro ⟨e',h1,h2⟩; exact ⟨e',by simp [h1],h2⟩
     · rintro ⟨e',h1,h2,h3⟩
       rcases aA.1 h1 with rfl | h1
       · rw [hb] at h2; cases h2
       · exact ⟨e',h1,h2,h3⟩
   | true=>
     rw [ae,fD,fD,Bool.or_eq_true,Bool.or_eq_true,gO,ih];constructor
     · rintro ((h | h) | ⟨e',h1,h2⟩)
       · exact ⟨e,by simp,hb,.inl h.symm⟩
       · exact ⟨e,by simp,hb,.inr h⟩
       · exact ⟨e',by simp [h1],h2⟩
     · rintro ⟨e',h1,h2,h3⟩
       rcases aA.1 h1 with rfl | h1
       · rcases h3 with h3 | h3
         · exact .inl (.inl h3.symm)
         · exact .inl (.inr h3)
       · exact .inr ⟨e',h1,h2,h3⟩
theorem gN:∀ (l:List Oper) (i j:Nat) (oi oj:Oper) (d:Tmp),gm (l.filterMap (fun o:Oper=>o.dst))=true→l[i]? = some oi→l[j]? = some oj→oi.dst=some d→oj.dst=some d→i=j
 | [],_,_,_,_,_,_,h,_,_,_=>by simp at h
 | x::l,i,j,oi,oj,d,hd,hi,hj,di,dj=>by
   have mem:∀ (k:Nat) (o:Oper),l[k]? = some o→o.dst=some d→d∈l.filterMap (fun o:Oper=>o.dst):=fun k o hk ho=>List.mem_filterMap.2 ⟨o,aj hk,ho⟩;have hl:gm (l.filterMap (fun o:Oper=>o.dst))=true:=by
    simp only [List.filterMap_cons] at hd
    cases hx:x.dst with
    | none=>rw [hx] at hd; exact hd
    | some y=>rw [hx] at hd; simp only [gm,ay] at hd; exact hd.2
   have clash:∀ (k:Nat) (o:Oper),l[k]? = some o→o.dst=some d→x.dst=some d→False:=fun k o hk ho hx=>by
    simp only [List.filterMap_cons,hx,gm,ay,Bool.not_eq_true',any_eq_false] at hd;exact hd.1 d (mem k o hk ho) (Nat.beq_refl d)
   cases i with
   | zero=>
     simp at hi; subst hi
     cases j with
     | zero=>rfl
     | succ j=>exact (clash j oj (by simpa using hj) dj di).elim
   | succ i=>
     cases j with
     | zero=>simp at hj; subst hj; exact (clash i oi (by simpa using hi) di dj).elim
     | succ j=>rw [gN l i j oi oj d hl (by simpa using hi) (by simpa using hj) di dj]
theorem io {m:Nat} {φ:Fr} {t:Nat} {v:Value} (h:(fj ops m φ).s t=some v):φ.s t=some v∧(aV (dq ops.toList) t=false∨aV (de ops.toList 0 m) t=true):=by
 simp only [fj] at h
 cases h1:aV (dq ops.toList) t <;> cases h2:aV (de ops.toList 0 m) t <;> rw [h1,h2] at h <;> simp at h <;> simp [h]
theorem wP {m m':Nat} (h:∀ i,aV m i=true→aV m' i=true) {φ:Fr} {a:Act} (ha:FA base n (fj ops m' φ) a):FA base n (fj ops m φ) a:=by
 refine ⟨ha.defers,ha.size,fun t v hv ht=>ha.slots t v ?_ ht⟩
 obtain ⟨h1,h2⟩:=io hv
 simp only [fj]
 rcases h2 with h2 | h2
 · rw [h2]; exact h1
 · have:aV (de ops.toList 0 m') t=true:=by
    rw [fA] at h2 ⊢;obtain ⟨i,o,e1,e2,e3⟩:=h2;exact ⟨i,o,e1,h _ e2,e3⟩
   rw [this];simp [h1]
theorem tb {φ:Fr} {d:Tmp} {v:Value} (h:φ.s d=some v):φ.put (some d) v=φ:=by
 cases φ with
 | mk s m=>
   simp only [Fr.put];congr 1;funext t
   cases hb:Nat.beq t d with
   | false=>rfl
   | true=>
     obtain rfl:=Nat.eq_of_beq_eq_true hb;exact h.symm
theorem pg {m i:Nat} {o:Oper} (hd:gm (ops.toList.filterMap (fun o:Oper=>o.dst))=true) (hi:ops[i]? = some o) (hm:aV m i=false) (φ:Fr) (v:Value):fj ops m (φ.put o.dst v)=fj ops m φ:=by
 cases hdst:o.dst with
 | none=>rfl
 | some d=>
   simp only [fj,Fr.put];congr 1;funext t
   cases hb:Nat.beq t d with
   | false=>rfl
   | true=>
     obtain rfl:=Nat.eq_of_beq_eq_true hb;have h1:aV (dq ops.toList) t=true:=nw.2 ⟨o,by simpa using Array.mem_of_getElem? hi,hdst⟩;have h2:aV (de ops.toList 0 m) t=false:=by
      cases hb2:aV (de ops.toList 0 m) t with
      | false=>rfl
      | true=>
        obtain ⟨j,o',e1,e2,e3⟩:=(fA _ _ _ _).1 hb2;have:=gN _ i j o o' t hd (by simpa using hi) e1 hdst e3;subst this;rw [Nat.zero_add,hm] at e2;cases e2
     rw [h1,h2]
     rfl
theorem rq {D i:Nat} {o:Oper} {φ:Fr} {a:Act} {v:Value} (hi:ops[i]? = some o) (ha:FA base n (fj ops D φ) a) (hv:∀ d,o.dst=some d→φ.s d=some v):FA base n (fj ops (Nat.lor D (2^i)) φ) (a.put o.dst v):=by
 have hs:∀ t u,(fj ops (Nat.lor D (2^i)) φ).s t=some u→o.dst=some t∨(fj ops D φ).s t=some u:=by
  intro t u hu;obtain ⟨h1,h2⟩:=io hu
  rcases h2 with h2 | h2
  · right; simp only [fj,h2]; exact h1
  · obtain ⟨j,o',e1,e2,e3⟩:=(fA _ _ _ _).1 h2;rw [Nat.zero_add,bi] at e2
    rcases e2 with e2 | rfl
    · right;have:aV (de ops.toList 0 D) t=true:=(fA _ _ _ _).2 ⟨j,o',e1,by rw [Nat.zero_add]; exact e2,e3⟩;simp only [fj,this];simpa using h1
    · left;have:some o'=some o:=by rw [← e1]; simpa using hi
      simp only [Option.some.injEq] at this;rw [← this];exact e3
 cases hd:o.dst with
 | none=>
   refine ⟨ha.defers,ha.size,fun t u hu ht=>?_⟩
   rcases hs t u hu with h | h
   · rw [hd] at h; cases h
   · exact ha.slots t u h ht
 | some d=>
   refine ⟨ha.defers,by simp [Act.put,ha.size],fun t u hu ht=>?_⟩;simp only [Act.put];by_cases e:t=d
   · subst e;rw [Array.getElem?_setIfInBounds_self];have h1:=(io hu).1;rw [hv t hd] at h1;simp only [Option.some.injEq] at h1;simp [ha.size,ht,h1]
   · rw [Array.getElem?_setIfInBounds_ne (Ne.symm e)]
     rcases hs t u hu with h | h
     · rw [hd] at h; simp only [Option.some.injEq] at h; exact absurd h.symm e
     · exact ha.slots t u h ht
theorem p8 {o:Oper} {a:Act} {w0:World} {h:Heap} {v:Value} (hr:∀ w,w.heap=h→(execOp a.eval o).run P w=.ok (.value v) w) (w:World) (hw:CC w0 h w):o.quietAtIn (FW none) 0 P a (CC w0 h) w v:=by
 unfold Oper.quietAtIn
 rw [hr w hw.1]
 exact ⟨rfl,rfl⟩
theorem ti {o:Oper} {φ:Fr} {h:Heap} {K:Value→Prop} (H:nS P n o φ h K) (hc:cS o.op=true) :
  ∃ v,K v∧∀ {base:List Deferred} (a:Act) (w0:World),FA base n φ a→∀ w,CC w0 h w→o.quietAtIn (FW none) 0 P a (CC w0 h) w v:=by
 unfold nS at H
 split at H
 · rename_i f args ts hop;obtain ⟨vf,hf,H1⟩:=bw H;obtain ⟨vs,hvs,v0,hcall,hd⟩:=ee H1;refine ⟨v0,eF hd,fun a w0 ha w hw=>?_⟩;have e1:args.map a.eval=vs.toArray:=by rw [← hvs a ha]; apply Array.ext'; simp
   have:=lX (next:=fun _=>True) (w0:=w0) hcall (a:=a) (o:=o) (by simp only [execOp,hop,resolve,bg ha hf,e1]) trivial (fun l x y e=>by
    have:=jP hc _ _ _ hop vf hf;rw [e] at this; cases this)
   obtain ⟨v,hv,_⟩:=this;have hv2:=hv w hw;unfold Oper.quietAtIn at hv2 ⊢;have hr:execOp a.eval o=(do let d ← Deferred.ofValue vf vs.toArray; invoke d.target d.args):=by simp only [execOp,hop,resolve,bg ha hf,e1]
   rw [hr] at hv2 ⊢;unfold du at hcall;split at hcall
   · rename_i f first cap
     have h1:(do let d ← Deferred.ofValue (.func (.func f) first cap) vs.toArray; invoke d.target d.args).run P w=.ok (.enter f (first.toList++vs++cap.toList).toArray) w:=by
      simp only [Deferred.ofValue,Sem.run_bind,Sem.run_pure,Result.andThen_ok,invoke];rw [show (first++vs.toArray++cap)=(first.toList++vs++cap.toList).toArray from Array.ext' (by simp)];exact gp hcall.1 _ _
     rw [h1];refine ⟨rfl,kR,mt (CallsIn.mono (hcall.2 w hw.1) fun e w' ⟨v,he,q,s⟩=>?_)⟩;exact ⟨by rw [he,q.1],q.2,hw.2.trans s⟩
   · have:=jP hc _ _ _ hop _ hf;cases this
   · exact hcall.elim
 · cases hq:E5 P o.op with
   | false=>rw [hq] at H; exact H.elim
   | true=>
     rw [hq] at H;obtain ⟨v,hv,H⟩:=mM hq H;exact ⟨v,H,fun a w0 ha w hw=>p8 (fun w hw=>hv a w ha hw) w hw⟩
def YQ (P:Program) (n:Nat) (ops:Array Oper) (o:Oper) (ψ:Fr) (h:Heap) (v:Value):Prop:=∀ {base:List Deferred} (a:Act) (w0:World),FA base n ψ a→YieldsQuiet (FW none) 0 P ops (CC w0 h) o v a
theorem vO {ψ:Fr} {d:Tmp} {v:Value} (h:ev n ψ (.tmp d)=some v):ψ.s d=some v:=by
 simp only [ev] at h
 cases hb:Nat.blt d n with
 | false=>rw [hb] at h; cases h
 | true=>rw [hb] at h; exact h
theorem n1 {i:Nat} {φ0 ψ:Fr} {a:Act} (ha:FA base n (over p ops i φ0 ψ) a):FA base n ψ a:=
 ⟨ha.defers,ha.size,fun t v hv ht=>ha.slots t v (by simp only [over,hv]) ht⟩
theorem qP {i:Nat} {t:Tmp}:∀ (l:List Oper) (k:Nat),tw p i l k t=true→∃ j o,l[j]? = some o∧o.dst=some t∧aV (p.befOf (k+j)) i=true
 | [],k,h=>by cases h
 | o::rest,k,h=>by
   unfold tw at h;simp only [Bool.or_eq_true] at h
   rcases h with h | h
   · cases hd:o.dst with
     | none=>rw [hd] at h; cases h
     | some d=>
       rw [hd] at h;simp only [ay] at h;obtain rfl:=Nat.eq_of_beq_eq_true h.1;exact ⟨0,o,rfl,hd,h.2⟩
   · obtain ⟨j,o',h1,h2,h3⟩:=qP rest (k+1) h;exact ⟨j+1,o',h1,h2,by rw [show k+(j+1)=k+1+j by omega]; exact h3⟩
def tS (p:fU) (n:Nat) (ops:Array Oper) (φ0:Fr) (D:Nat) (a:Act):Prop:=
 ∀ (k:Nat) (o:Oper) (t:Tmp) (v:Value),ops[k]? = some o→o.dst=some t→aV D k=false→φ0.s t=some v→t<n→a.tmps[t]? = some v
theorem AA {i D:Nat} {φ0 ψ:Fr} {a:Act} (ha:FA base n ψ a) (hI:tS p n ops φ0 D a) (hD:aV D i=false) (hc:∀ i,aV D i=true→∀ j,aV (p.befOf i) j=true→aV D j=true):FA base n (over p ops i φ0 ψ) a:=by
 refine ⟨ha.defers,ha.size,fun t v hv ht=>?_⟩
 simp only [over] at hv
 cases hs:ψ.s t with
 | some u=>rw [hs] at hv; exact ha.slots t v (by rw [hs]; exact hv) ht
 | none=>
   rw [hs] at hv;simp only [] at hv
   cases hl:tw p i ops.toList 0 t with
   | false=>rw [hl] at hv; cases hv
   | true=>
     rw [hl,ae] at hv;obtain ⟨j,o,h1,h2,h3⟩:=qP _ _ hl;rw [Nat.zero_add] at h3;refine hI j o t v (by simpa using h1) h2 ?_ hv ht
     cases hb:aV D j with
     | false=>rfl
     | true=>rw [hc j hb i h3] at hD; cases hD
theorem tS.put {i D:Nat} {φ0:Fr} {o:Oper} {a:Act} (hd:gm (ops.toList.filterMap (fun o:Oper=>o.dst))=true) (hi:ops[i]? = some o) (hI:tS p n ops φ0 D a) (v:Value):tS p n ops φ0 (Nat.lor D (2^i)) (a.put o.dst v):=by
 intro k ok t u hk ht hD hs hn
 have hDk:aV D k=false:=by
  cases hb:aV D k with
  | false=>rfl
  | true=>rw [bi.2 (.inl hb)] at hD; cases hD
 have hki:k≠i:=fun e=>by rw [e,bi.2 (.inr rfl)] at hD; cases hD
 have h1:=hI k ok t u hk ht hDk hs hn
 cases hdo:o.dst with
 | none=>exact h1
 | some d=>
   have hne:t≠d:=fun e=>hki (gN _ k i ok o t hd (by simpa using hk) (by simpa using hi) ht (by rw [hdo,e]));simp only [Act.put];rw [Array.getElem?_setIfInBounds_ne (Ne.symm hne)];exact h1
theorem tC {i:Nat} {φ0:Fr} {o:Oper} {φ:Fr} {h:Heap} {K:Fr→Value→Prop} (H:gq P n ops p i φ0 o φ h K) (hc:cS o.op=true):∃ v,K φ v∧YQ P n ops o (over p ops i φ0 (fj ops (p.befOf i) φ)) h v:=by
 unfold gq at H
 split at H
 · rename_i hg;obtain ⟨v,hK,hv⟩:=ti H hc;exact ⟨v,hK,fun a w0 ha=>⟨fun _ _ _ _=>trivial,.inl ⟨by simp [Region.wanted,hg],hv a w0 ha⟩⟩⟩
 · rename_i j want hg;split at H
   · exact H.elim
   · rename_i d hd;split at H
     · rename_i t ht;have hs:=(io (vO ht)).1;have wt:∀ {base:List Deferred} (a:Act),FA base n (over p ops i φ0 (fj ops (p.befOf i) φ)) a→Region.wanted o (yielded ops a.tmps)=(t==want):=fun a ha=>fV hg hd (kp (n1 ha) ht);have yes:(t==want)=true→nS P n o (over p ops i φ0 (fj ops (p.befOf i) φ)) h (fun v=>K φ v)→∃ v,K φ v∧YQ P n ops o (over p ops i φ0 (fj ops (p.befOf i) φ)) h v:=fun e H=>by
        obtain ⟨v,hK,hv⟩:=ti H hc;exact ⟨v,hK,fun a w0 ha=>⟨fun _ _ _ _=>trivial,.inl ⟨by rw [wt a ha]; exact e,hv a w0 ha⟩⟩⟩
       have no:(t==want)=false→K φ undef→∃ v,K φ v∧YQ P n ops o (over p ops i φ0 (fj ops (p.befOf i) φ)) h v:=fun e H=>
        ⟨undef,H,fun a w0 ha=>⟨fun _ _ _ _=>trivial,.inr ⟨by rw [wt a ha]; exact e,rfl⟩⟩⟩
       cases t <;> cases want <;> simp only [ae,ab,tb hs] at H
       · exact yes rfl H
       · exact no rfl H
       · exact no rfl H
       · exact yes rfl H
     · rename_i vs ht;exact ⟨undef,H,fun a w0 ha=>⟨fun _ _ _ _=>trivial,.inr ⟨fV hg hd (kp (n1 ha) ht),rfl⟩⟩⟩
     · exact H.elim
theorem yV {i:Nat} {φ0:Fr} {o:Oper} {φ:Fr} {h:Heap} {K:Fr→Value→Heap→Prop} {a:Act} {w:World} {next:Act→World→Prop} {Q:Exit→Act→World→Prop} (hi:ops[i]? = some o)
  (H:gE P n et ops p i φ0 o φ h K) (ha:FA base n (over p ops i φ0 (fj ops (p.befOf i) φ)) a) (hw:w.heap=h) (hn:∀ v w',K φ v w'.heap→fH w w'→next (a.put o.dst v) w'):wpOpIn (FW none) 0 P ops Q i next a w:=by
 unfold wpOpIn
 simp only [hi]
 unfold gE at H
 split at H
 · rename_i hg;rw [an (by simp [Region.wanted,hg])];exact jN H ha hw hn
 · rename_i j want hg;split at H
   · exact H.elim
   · rename_i d hd;split at H
     · rename_i t ht;have hs:=(io (vO ht)).1;have wt:Region.wanted o (yielded ops a.tmps)=(t==want):=fV hg hd (kp (n1 ha) ht);rw [wt];subst hw;cases t <;> cases want <;> simp only [ae,ab,tb hs] at H
       · exact an rfl▸jN H ha rfl hn
       · rw [am (by simp)]; exact ⟨fun _ _=>trivial,hn _ _ H (.refl w)⟩
       · rw [am (by simp)]; exact ⟨fun _ _=>trivial,hn _ _ H (.refl w)⟩
       · exact an rfl▸jN H ha rfl hn
     · rename_i vs ht;have wt:=fV hg hd (kp (n1 ha) ht);simp only [] at wt;rw [wt,am (by simp)];subst hw;exact ⟨fun _ _=>trivial,hn _ _ H (.refl w)⟩
     · exact H.elim
theorem oY {past:Nat}:∀ (f i:Nat),ny p past f i=none→∀ j,i≤j→j<i+f→aV past j=false→aV p.eff j=false→oq (p.befOf j) past=true→False
 | 0,i,_,j,h1,h2,_,_,_=>by omega
 | f+1,i,h,j,h1,h2,h3,h4,h5=>by
   unfold ny at h
   cases hb:(!aV past i && !aV p.eff i&&oq (p.befOf i) past) with
   | true=>rw [hb] at h; cases h
   | false=>
     rw [hb] at h
     rcases Nat.eq_or_lt_of_le h1 with rfl | h1
     · rw [h3,h4,h5] at hb; cases hb
     · exact oY f (i+1) h j h1 (by omega) h3 h4 h5
theorem oX {past k:Nat}:∀ (f i:Nat),ny p past f i=some k→k<i+f∧aV past k=false∧aV p.eff k=false∧oq (p.befOf k) past=true
 | 0,i,h=>by cases h
 | f+1,i,h=>by
   unfold ny at h
   cases hb:(!aV past i && !aV p.eff i&&oq (p.befOf i) past) with
   | true=>
     rw [hb] at h;simp only [ae,Option.some.injEq] at h;subst h;simp only [ay,Bool.not_eq_true'] at hb;exact ⟨by omega,hb.1.1,hb.1.2,hb.2⟩
   | false=>
     rw [hb] at h;have:=oX f (i+1) h;exact ⟨by omega,this.2⟩
theorem qE {past:Nat}:∀ (f i j:Nat),i≤j→j<i+f→aV past j=false→aV p.eff j=true→oq (p.befOf j) past=true→j∈tm p past f i
 | 0,i,j,h1,h2,_,_,_=>by omega
 | f+1,i,j,h1,h2,h3,h4,h5=>by
   unfold tm
   rcases Nat.eq_or_lt_of_le h1 with rfl | h1
   · rw [h3,h4,h5]; exact mem_cons_self
   · have:=qE f (i+1) j h1 (by omega) h3 h4 h5
     cases (!aV past i&&aV p.eff i&&oq (p.befOf i) past) with
     | true=>exact aD _ this
     | false=>exact this
theorem rg {f:Nat→Prop}:∀ {l:List Nat} {i:Nat},ze l f→i∈l→f i
 | [],_,h,_=>h.elim
 | [j],i,h,hi=>by simp at hi; subst hi; exact h
 | j::k::r,i,h,hi=>by
   rcases aA.1 hi with rfl | hi
   · exact h.1
   · exact rg h.2 hi
theorem lO {φ0:Fr} {past b:Nat} {φ:Fr} {h:Heap} {K:Prop}:∀ (f i:Nat),again P n ops p φ0 past b φ h f i K→K∧∀ j,i≤j→j<i+f→aV past j=true→aV p.eff j=false→aV b j=false→∃ o,ops[j]? = some o∧gq P n ops p j φ0 o φ h (fun φ' u=>HQ φ' o.dst u)
 | 0,i,H=>⟨H,fun j h1 h2=>by omega⟩
 | f+1,i,H=>by
   unfold again at H
   cases hb:(aV past i && !aV p.eff i && !aV b i) with
   | true=>
     rw [hb,ae] at H
     cases ho:ops[i]? with
     | none=>rw [ho] at H; exact H.elim
     | some o=>
       rw [ho] at H;obtain ⟨hK,hr⟩:=lO f (i+1) H.2;refine ⟨hK,fun j h1 h2 h3 h4 h5=>?_⟩
       rcases Nat.eq_or_lt_of_le h1 with rfl | h1
       · exact ⟨o,ho,H.1⟩
       · exact hr j h1 (by omega) h3 h4 h5
   | false=>
     rw [hb,ab] at H;obtain ⟨hK,hr⟩:=lO f (i+1) H;refine ⟨hK,fun j h1 h2 h3 h4 h5=>?_⟩
     rcases Nat.eq_or_lt_of_le h1 with rfl | h1
     · rw [h3,h4,h5] at hb; cases hb
     · exact hr j h1 (by omega) h3 h4 h5
end
structure HD (base:List Deferred) (P:Program) (n:Nat) (ops:Array Oper) (p:fU) (φ0:Fr) (m0:List Nat) (w0:World) (a0:Act) (past:Nat) (φ:Fr) (h:Heap) (D:Nat) (a:Act) (w:World):Prop where
 closed:∀ i,aV D i=true→∀ j,aV (p.befOf i) j=true→aV D j=true
 sub:∀ i,aV D i=true→aV past i=true
 effs:∀ i,aV past i=true→aV p.eff i=true→aV D i=true
 lt:∀ i,aV past i=true→i<ops.size
 pclosed:∀ i,aV past i=true→∀ j,aV (p.befOf i) j=true→aV past j=true
 facts:∀ i o,aV past i=true→aV p.eff i=false→aV D i=false→ops[i]? = some o→∃ v,(∀ d,o.dst=some d→φ.s d=some v)∧YQ P n ops o (over p ops i φ0 (fj ops (p.befOf i) φ)) h v
 inits:tS p n ops φ0 D a
 fa:FA base n (fj ops D φ) a
 heap:w.heap=h
 same:fH w0 w
 agree:df (dq ops.toList) a0 a
 marks:φ.m=m0
structure sw (ops:Array Oper) (D:Nat) (listed:Array Bool):Prop where
 size:listed.size=ops.size
 bits:∀ i,i<ops.size→aV D i=listed.getD i false
theorem j2 {l:Array Bool} {i:Nat} (h:i<l.size):l.getD i true=l.getD i false:=by simp [Array.getD,h]
section
variable {P:Program} {n:Nat} {et:List TypeId} {ops:Array Oper} {p:fU} {φ0:Fr} {m0:List Nat} {w0:World} {a0:Act}
theorem lZ (hp:jb p ops=true) {i:Nat} {o:Oper} (hi:ops[i]? = some o):p.befOf i=planOf p o∧(∀ e∈o.after.toList,Region.binds .any e=true→e.on<i)∧(aV p.eff i=false→cS o.op=true)∧iZ o.op=true:=by
 simp only [jb,ay] at hp
 have:=nt ops.toList 0 i o hp.1 (by simpa using hi)
 rwa [Nat.zero_add] at this
theorem eX (hp:jb p ops=true):gm (ops.toList.filterMap (fun o:Oper=>o.dst))=true:=by
 simp only [jb,ay] at hp
 exact hp.2
theorem wF {o o':Oper} {i j:Nat} (hp:jb p ops=true) (hi:ops[i]? = some o) (hj:ops[j]? = some o') (hij:i≠j) (φ:Fr) (v:Value) {d:Tmp} (hd:o'.dst=some d):(φ.put o.dst v).s d=φ.s d:=by
 cases hdo:o.dst with
 | none=>rfl
 | some e=>
   have:d≠e:=fun h=>hij (gN _ i j o o' e (eX hp) (by simpa using hi) (by simpa using hj) hdo (by rw [hd,h]));simp only [Fr.put]
   cases hb:Nat.beq d e with
   | false=>rfl
   | true=>exact absurd (Nat.eq_of_beq_eq_true hb) this
theorem tc {φ:Fr} {o:Oper} {v:Value} {d:Tmp} (hd:o.dst=some d):(φ.put o.dst v).s d=some v:=by
 rw [hd]
 simp only [Fr.put]
 rw [show Nat.beq d d=true from Nat.beq_refl d]
 rfl
theorem oB (hp:jb p ops=true) {h:Heap} {D:Nat} {a:Act} {w:World} {K:Fr→Heap→Prop}:∀ (fuel past:Nat) (φ:Fr),HD base P n ops p φ0 m0 w0 a0 past φ h D a w→zd P n et ops p φ0 fuel past φ h K→
  ∃ fuel past φ,HD base P n ops p φ0 m0 w0 a0 past φ h D a w∧ny p past ops.size 0=none∧zd P n et ops p φ0 fuel past φ h K
 | 0,_,_,_,H=>H.elim
 | fuel+1,past,φ,I,H=>by
   cases hq:ny p past ops.size 0 with
   | none=>exact ⟨fuel+1,past,φ,I,hq,H⟩
   | some i=>
     unfold zd at H;rw [hq] at H;simp only [] at H;obtain ⟨hlt,hnp,hne,hsub⟩:=oX _ _ hq;rw [Nat.zero_add] at hlt
     cases ho:ops[i]? with
     | none=>rw [ho] at H; exact H.elim
     | some o=>
       rw [ho] at H;obtain ⟨hbef,hon,hnc⟩:=lZ hp ho;obtain ⟨v,H2,hy⟩:=tC H (hnc.1 hne);have hsub':=sR.1 hsub;have hnD:aV D i=false:=by
        cases hb:aV D i with
        | false=>rfl
        | true=>rw [I.sub i hb] at hnp; cases hnp
       have keep:∀ j,(∀ k,aV (p.befOf j) k=true→aV past k=true)→fj ops (p.befOf j) (φ.put o.dst v)=fj ops (p.befOf j) φ:=fun j hj=>by
        refine pg (eX hp) ho ?_ φ v
        cases hb:aV (p.befOf j) i with
        | false=>rfl
        | true=>rw [hj i hb] at hnp; cases hnp
       refine oB hp fuel _ _ ⟨I.closed,fun j hj=>bi.2 (.inl (I.sub j hj)),fun j hj he=>?_,fun j hj=>?_,fun j hj k hk=>?_,fun j o' hj he hD ho'=>?_,I.inits,?_,I.heap,I.same,I.agree,?_⟩ H2
       · rcases bi.1 hj with hj | rfl
         · exact I.effs j hj he
         · rw [hne] at he; cases he
       · rcases bi.1 hj with hj | rfl
         · exact I.lt j hj
         · exact hlt
       · refine bi.2 (.inl ?_)
         rcases bi.1 hj with hj | rfl
         · exact I.pclosed j hj k hk
         · exact hsub' k hk
       · rcases bi.1 hj with hj | rfl
         · obtain ⟨u,hu,hyq⟩:=I.facts j o' hj he hD ho';have hij:i≠j:=fun e=>by subst e; rw [hj] at hnp; cases hnp
           refine ⟨u,fun d hd=>by rw [wF hp ho ho' hij φ v hd]; exact hu d hd,?_⟩;rw [keep j (I.pclosed j hj)];exact hyq
         · have:o'=o:=by rw [ho] at ho'; simpa using ho'.symm
           subst this;refine ⟨v,fun d hd=>tc hd,?_⟩;rw [keep j hsub'];exact hy
       · rw [pg (eX hp) ho hnD φ v];exact I.fa
       · rw [Fr.put_m]; exact I.marks
theorem count_set {l:Array Bool} {i f:Nat} (hi:i<l.size) (h0:l.getD i true=false) (hc:l.toList.count false≤f+1):(l.setIfInBounds i true).toList.count false≤f:=by
 have hi':i<l.toList.length:=by simpa using hi
 have hv:l.toList[i]=false:=by
  simp [Array.getD,hi] at h0;simpa using h0
 have hcs:=List.count_set (a:=true) (b:=false) hi'
 have hpos:0<l.toList.count false:=List.count_pos_iff.2 (hv▸getElem_mem hi')
 have e1:(l.setIfInBounds i true).toList.count false=l.toList.count false - 1:=by
  rw [Array.toList_setIfInBounds,hcs];have h1:(l.toList[i]==false)=true:=by rw [hv]; rfl
  rw [an h1,am (by decide)]
  rfl
 rw [e1]
 omega
theorem uQ {D i:Nat} {listed:Array Bool} (hL:sw ops D listed) (hi:i<ops.size):sw ops (Nat.lor D (2^i)) (listed.setIfInBounds i true):=by
 refine ⟨by simp [hL.size],fun j hj=>?_⟩
 have hb:=hL.bits j hj
 have hsz:=hL.size
 by_cases e:j=i
 · subst e;have:aV (Nat.lor D (2^j)) j=true:=bi.2 (.inr rfl);rw [this];simp [Array.getD,hsz,hj]
 · have h1:aV (Nat.lor D (2^i)) j=aV D j:=by
    rw [Bool.eq_iff_iff,bi];exact ⟨fun h=>h.elim id fun h=>absurd h e,.inl⟩
   rw [h1,hb];simp [Array.getD,hsz,hj,Array.getElem_setIfInBounds,Ne.symm e]
theorem FH (hp:jb p ops=true) {K:Fr→Heap→Prop} {Q:Exit→Act→World→Prop}
  (hK:∀ φ a w,K φ w.heap→FA base n φ a→fH w0 w→df (dq ops.toList) a0 a→φ.m=m0→Q .normal a w) :
  ∀ (fw:Nat) (listed:Array Bool) (D:Nat) (a:Act) (w:World) (fuel past:Nat) (φ:Fr) (h:Heap),sw ops D listed→listed.toList.count false≤fw→HD base P n ops p φ0 m0 w0 a0 past φ h D a w→zd P n et ops p φ0 fuel past φ h K→
    wpAnyIn (FW none) 0 P .any ops Q fw listed a w:=by
 have done:∀ (listed:Array Bool) (D:Nat) (a:Act) (w:World) (fuel past:Nat) (φ:Fr) (h:Heap),sw ops D listed→HD base P n ops p φ0 m0 w0 a0 past φ h D a w→zd P n et ops p φ0 fuel past φ h K→
   Region.ready .any ops listed=[]→Q .normal a w:=by
  intro listed D a w fuel past φ h hL I0 H0 hr;obtain ⟨fuel,past,φ,I,hq,H⟩:=oB hp fuel past φ I0 H0;have hall:∀ i,i<ops.size→aV D i=true:=by
   intro i
   induction i using Nat.strongRecOn with
   | ind i ih=>
     intro hi
     cases hb:aV D i with
     | true=>rfl
     | false=>
       exfalso;have ho:ops[i]? = some ops[i]:=Array.getElem?_eq_getElem hi;have:i∈Region.ready .any ops listed:=by
        refine mem_ready.2 ⟨by rw [j2 (by rw [hL.size]; exact hi),← hL.bits i hi]; exact hb,ops[i],ho,fun e he hbi=>?_⟩;have hon:=(lZ hp ho).2.1 e (by simpa using he) hbi;rw [← hL.bits e.on (by omega)];exact ih e.on hon (by omega)
       rw [hr] at this;cases this
  have hpast:past=2^ops.size - 1:=by
   apply Nat.eq_of_testBit_eq;intro i;rw [Nat.testBit_two_pow_sub_one];by_cases hi:i<ops.size
   · have:=I.sub i (hall i hi);rw [eW] at this;simp [hi,this]
   · have:aV past i=false:=by
      cases hb:aV past i with
      | false=>rfl
      | true=>exact absurd (I.lt i hb) hi
     rw [eW] at this;simp [hi,this]
  cases fuel with
  | zero=>exact H.elim
  | succ fuel=>
    unfold zd at H;rw [hq] at H;simp only [] at H;rw [hpast,Nat.beq_refl,ae] at H;refine hK φ a w (I.heap▸H) ?_ I.same I.agree I.marks;have hfa:=I.fa;refine ⟨hfa.defers,hfa.size,fun t v hv ht=>hfa.slots t v ?_ ht⟩;simp only [fj]
    cases hm:aV (dq ops.toList) t with
    | false=>exact hv
    | true=>
      obtain ⟨o,ho,hd⟩:=nw.1 hm;obtain ⟨j,hj⟩:=getElem?_of_mem ho;have hjl:j<ops.size:=by
       have:=(ak.1 hj).1;simpa using this
      have:aV (de ops.toList 0 D) t=true:=(fA _ _ _ _).2 ⟨j,o,hj,by rw [Nat.zero_add]; exact hall j hjl,hd⟩;rw [this];exact hv
 intro fw
 induction fw with
 | zero=>
   intro listed D a w fuel past φ h hL hc I H;have hr:Region.ready .any ops listed=[]:=by
    apply List.eq_nil_iff_forall_not_mem.2;intro i hi;obtain ⟨h0,o,ho,_⟩:=mem_ready.1 hi;have hlt:i<ops.size:=(Array.getElem?_eq_some_iff.1 ho).1;have hil:i<listed.toList.length:=by simpa [hL.size] using hlt
    have hv:listed.toList[i]=false:=by
     simp [Array.getD,hL.size,hlt] at h0;simpa using h0
    have:0<listed.toList.count false:=List.count_pos_iff.2 (hv▸getElem_mem hil);omega
   exact ⟨hr,done listed D a w fuel past φ h hL I H hr⟩
 | succ fw ih=>
   intro listed D a w fuel past φ h hL hc I0 H0;refine ⟨fun hr=>done listed D a w fuel past φ h hL I0 H0 hr,fun i hi=>?_⟩;obtain ⟨fuel,past,φ,I,hq,H⟩:=oB hp fuel past φ I0 H0;obtain ⟨h0,o,ho,hafter⟩:=mem_ready.1 hi;have hlt:i<ops.size:=(Array.getElem?_eq_some_iff.1 ho).1;obtain ⟨hbef,hon,hnc⟩:=lZ hp ho;have hnD:aV D i=false:=by
    rw [hL.bits i hlt,← j2 (by rw [hL.size]; exact hlt)];exact h0
   have hbD:∀ j,aV (p.befOf i) j=true→aV D j=true:=by
    intro j hj;rw [hbef,uF] at hj;obtain ⟨e,he,hbi,hj⟩:=hj;have h1:aV D e.on=true:=by
     rw [hL.bits e.on (by have:=hon e he hbi; omega)];exact hafter e (by simpa using he) hbi
    rcases hj with rfl | hj
    · exact h1
    · exact I.closed _ h1 j hj
   have hL':=uQ hL hlt;have hc':=count_set (by rw [hL.size]; exact hlt) h0 hc;have hfa:=AA (wP hbD I.fa) I.inits hnD I.closed;have closed':∀ j,aV (Nat.lor D (2^i)) j=true→∀ k,aV (p.befOf j) k=true→aV (Nat.lor D (2^i)) k=true:=fun j hj k hk=>by
    refine bi.2 (.inl ?_)
    rcases bi.1 hj with hj | rfl
    · exact I.closed j hj k hk
    · exact hbD k hk
   have agree':∀ v,df (dq ops.toList) a0 (a.put o.dst v):=fun v=>I.agree.put (fun d hd=>iY (by simpa using Array.mem_of_getElem? ho) hd) v
   cases hpi:aV past i with
   | true=>
     have hne:aV p.eff i=false:=by
      cases hb:aV p.eff i with
      | false=>rfl
      | true=>rw [I.effs i hpi hb] at hnD; cases hnD
     obtain ⟨v,hv,hy⟩:=I.facts i o hpi hne hnD ho;refine wpOpIn_of_qOpIn (C:=CC w0 h) (K:=fun a'=>a'=a.put o.dst v) rfl ⟨I.heap,I.same⟩ (fun a' w' hw' hK'=>?_) ((hy a w0 hfa).qOpIn ho rfl);subst hK';refine ih _ (Nat.lor D (2^i)) _ w' fuel past φ h hL' hc' ⟨closed',fun j hj=>?_,fun j hj he=>bi.2 (.inl (I.effs j hj he)),I.lt,I.pclosed,fun j o' hj he hD ho'=>I.facts j o' hj he ?_ ho',I.inits.put (eX hp) ho v,rq ho I.fa hv,hw'.1,hw'.2,agree' v,I.marks⟩ H
     · rcases bi.1 hj with hj | rfl
       · exact I.sub j hj
       · exact hpi
     · cases hb:aV D j with
       | false=>rfl
       | true=>rw [bi.2 (.inl hb)] at hD; cases hD
   | false=>
     have hsubp:oq (p.befOf i) past=true:=sR.2 fun j hj=>I.sub j (hbD j hj);have heff:aV p.eff i=true:=by
      cases hb:aV p.eff i with
      | true=>rfl
      | false=>exact (oY _ _ hq i (aw _) (by omega) hpi hb hsubp).elim
     cases fuel with
     | zero=>exact H.elim
     | succ fuel=>
       unfold zd at H;rw [hq] at H;simp only [] at H;have hnfull:Nat.beq past (2^ops.size - 1)=false:=by
        cases hb:Nat.beq past (2^ops.size - 1) with
        | false=>rfl
        | true=>
          exfalso;have e:=Nat.eq_of_beq_eq_true hb;have:past.testBit i=true:=by rw [e,Nat.testBit_two_pow_sub_one]; simpa using hlt
          rw [← eW,hpi] at this;cases this
       rw [hnfull,ab] at H;have HE:=rg H (qE _ _ i (aw _) (by omega) hpi heff hsubp);rw [ho] at HE;refine yV ho HE hfa I.heap fun v w' hag hs=>?_;obtain ⟨Hn,hagain⟩:=lO _ _ hag;have keepD:fj ops D (φ.put o.dst v)=fj ops D φ:=pg (eX hp) ho hnD φ v;refine ih _ (Nat.lor D (2^i)) _ w' fuel _ _ _ hL' hc' ⟨closed',fun j hj=>?_,fun j hj he=>?_,fun j hj=>?_,fun j hj k hk=>?_,fun j o' hj he hD ho'=>?_,I.inits.put (eX hp) ho v,rq ho (by rw [keepD]; exact I.fa) (fun d hd=>tc hd),rfl,I.same.trans hs,agree' v,by rw [Fr.put_m]; exact I.marks⟩ Hn
       · refine bi.2 ?_
         rcases bi.1 hj with hj | rfl
         · exact .inl (I.sub j hj)
         · exact .inr rfl
       · refine bi.2 ?_
         rcases bi.1 hj with hj | rfl
         · exact .inl (I.effs j hj he)
         · exact .inr rfl
       · rcases bi.1 hj with hj | rfl
         · exact I.lt j hj
         · exact hlt
       · refine bi.2 (.inl ?_)
         rcases bi.1 hj with hj | rfl
         · exact I.pclosed j hj k hk
         · exact I.sub k (hbD k hk)
       · rcases bi.1 hj with hj | rfl
         · have hnb:aV (p.befOf i) j=false:=by
            cases hb:aV (p.befOf i) j with
            | false=>rfl
            | true=>rw [bi.2 (.inl (hbD j hb))] at hD; cases hD
           obtain ⟨o2,ho2,hg⟩:=hagain j (aw _) (by have:=I.lt j hj; omega) hj he hnb;have:o2=o':=by rw [ho'] at ho2; simpa using ho2.symm
           subst this;obtain ⟨u,hu,hy⟩:=tC hg ((lZ hp ho').2.2.1 he);refine ⟨u,fun d hd=>?_,hy⟩;unfold HQ at hu;rw [hd] at hu;exact hu
         · rw [heff] at he; cases he
theorem tJ {id:Nat} {r:Option Nat} {Q:Exit→Act→World→Prop} {K:Fr→Heap→Prop} {φ:Fr} {h:Heap} {a:Act} {w:World} {fuel:Nat}
  (hm:P.follows .mixedOrders=true) (hp:jb p ops=true) (H:zd P n et ops p φ fuel 0 φ h K) (ha:FA base n φ a) (hw:w.heap=h)
  (hK:∀ φ' a' w',K φ' w'.heap→FA base n φ' a'→fH w w'→df (dq ops.toList) a a'→φ'.m=φ.m→Q .normal a' w') :
  (Code.region id ops true).wpIn (FW r) 0 P Q a w:=by
 have hns:∀ (i:Nat) (o:Oper),ops[i]? = some o→iZ o.op=true:=fun i o ho=>(lZ hp ho).2.2.2
 refine wpIn_region_draw fun t=>lk hns _ _ _ ?_
 simp only [Region.schedule,hm,Bool.true_or,if_true]
 refine wpAnyIn_sound ops.size t _ a _ ?_
 refine FH (φ0:=φ) (w0:=w) (a0:=a) (m0:=φ.m) hp hK ops.size (Array.replicate ops.size false) 0 a _ fuel 0 φ h ⟨by simp,fun i hi=>by simp [iN,Array.getD,hi]⟩ (by simp) ?_ H
 refine ⟨fun i hi=>?_,fun i hi=>?_,fun i hi=>?_,fun i hi=>?_,fun i hi=>?_,fun i o hi=>?_,fun k o t v _ _ _ hv ht=>ha.slots t v hv ht,?_,hw,⟨rfl,rfl,rfl⟩,.refl _ a,rfl⟩
 all_goals first | (rw [iN] at hi; cases hi) | skip
 refine ⟨ha.defers,ha.size,fun t v hv ht=>ha.slots t v (io hv).1 ht⟩
end
structure E3 (α:Type) where
 enc:α→Value
 dec:Option Value→(α→Prop)→Prop
 ok:∀ v K,dec v K→∃ x,v=some (enc x)∧K x
def bK (k:IntKind):E3 Int where
 enc x:=.int k x
 dec v K:=match v with
  | some (.int k' x)=>cond (decide (k'=k)) (K x) False
  | _=>False
 ok v K h:=by
  split at h
  · rename_i k' x;by_cases e:k'=k
    · subst e; simp only [decide_true,ae] at h; exact ⟨x,rfl,h⟩
    · simp only [e,decide_false,ab] at h
  · exact h.elim
def AY:E3 Bool where
 enc x:=.bool x
 dec v K:=match v with
  | some (.bool x)=>K x
  | _=>False
 ok v K h:=by (split at h <;> first | exact h.elim | exact ⟨_,rfl,h⟩)
def HZ:E3 ByteArray where
 enc x:=.string x
 dec v K:=match v with
  | some (.string x)=>K x
  | _=>False
 ok v K h:=by (split at h <;> first | exact h.elim | exact ⟨_,rfl,h⟩)
def FI:E3 (Option Addr) where
 enc x:=.pointer x
 dec v K:=match v with
  | some (.pointer x)=>K x
  | _=>False
 ok v K h:=by (split at h <;> first | exact h.elim | exact ⟨_,rfl,h⟩)
structure Sl where
 a:Option Addr
 l:Nat
 c:Nat
def fo:E3 Sl where
 enc x:=.slice x.a x.l x.c
 dec v K:=match v with
  | some (.slice a l c)=>K ⟨a,l,c⟩
  | _=>False
 ok v K h:=by (split at h <;> first | exact h.elim | exact ⟨_,rfl,h⟩)
structure dJ where
 S:Type
 enc:S→List (Nat×Value)
 dec:(Nat→Option Value)→(S→Prop)→Prop
 ok:∀ f K,dec f K→∃ x,(∀ p∈enc x,f p.1=some p.2)∧K x
def bq:dJ where
 S:=Unit
 enc _:=[]
 dec _ K:=K ()
 ok f K h:=⟨(),by simp,h⟩
def be {α:Type} (t:Nat) (c:E3 α):dJ where
 S:=α
 enc x:=[(t,c.enc x)]
 dec f K:=c.dec (f t) K
 ok f K h:=let ⟨x,hx,h⟩:=c.ok _ _ h; ⟨x,by simp [hx],h⟩
def br {α:Type} (t:Nat) (c:E3 α) (A:dJ):dJ where
 S:=α×A.S
 enc x:=(t,c.enc x.1)::A.enc x.2
 dec f K:=c.dec (f t) fun a=>A.dec f fun b=>K (a,b)
 ok f K h:=by
  obtain ⟨a,ha,h⟩:=c.ok _ _ h;obtain ⟨b,hb,h⟩:=A.ok _ _ h;exact ⟨(a,b),by simpa [ha] using hb,h⟩
def bf {S:Type} (F:(S→Heap→Prop)→S→Heap→Prop) (s:S) (h:Heap):Prop:=
 ∃ (I:S→Heap→Prop) (μ:S→Heap→Nat),I s h∧∀ s h,I s h→F (fun s' h'=>I s' h'∧μ s' h'<μ s h) s h
def fN:Code→Nat
 | .region _ ops _=>dq ops.toList
 | .seq a b=>Nat.lor (fN a) (fN b)
 | .cond _ a b=>Nat.lor (fN a) (fN b)
 | .block _ c=>fN c
 | .loop c=>fN c
 | _=>0
def jd:Code→Bool
 | .seq a b=>jd a&&jd b
 | .cond _ a b=>jd a&&jd b
 | .block _ c=>jd c
 | .loop c=>jd c
 | .rangeFunc ..=>false
 | _=>true
inductive J where
 | ret
 | exit (id:Nat)
def J.code:J→Code
 | .ret=>.ret
 | .exit i=>.exit i
def J.beq:J→J→Bool
 | .ret,.ret=>true
 | .exit i,.exit j=>Nat.beq i j
 | _,_=>false
def Fx (j:J) (l:List J):List J:=bif l.any (J.beq j) then l else j::l
def i3:Code→List J
 | .ret=>[.ret]
 | .exit i=>[.exit i]
 | .seq a b=>(i3 a).foldr Fx (i3 b)
 | .cond _ a b=>(i3 a).foldr Fx (i3 b)
 | .block id c=>(i3 c).filter fun j=>match j with
   | .exit i => !Nat.beq i id
   | _=>true
 | .loop c=>i3 c
 | .rangeFunc _ _ _ c=>i3 c
 | _=>[]
def Ht (φ:Fr) (h:Heap) (K:Exit→Fr→Heap→Prop):J→Prop
 | .ret=>K .ret φ h
 | .exit i=>K (.exit i) φ h
def after (φ:Fr) (h:Heap) (K:Exit→Fr→Heap→Prop) (pend:Option Code):List J→Prop
 | []=>pend=none∧K .normal φ h
 | [j]=>(pend=none∨pend=some j.code)∧(pend=none→K .normal φ h)∧(pend=some j.code→Ht φ h K j)
 | [j,j']=>(pend=none∨pend=some j.code∨pend=some j'.code)∧(pend=none→K .normal φ h)∧(pend=some j.code→Ht φ h K j)∧(pend=some j'.code→Ht φ h K j')
 | _=>False
def us (P:Program) (v:Value) (args:List Value) (h:Heap) (Q:Value→Heap→Prop):Prop:=
 match v with
 | .func (.func f) first cap=>aE P f (first.toList++args++cap.toList) h Q
 | _=>False
def kX (P:Program) (vf:Value) (np:Nat) (r:Option Nat) (h:Heap) (B:Nat→(LoopState→Option Code→Obj)→List Value→Heap→(Value→Heap→Prop)→Prop)
    (A:Option Code→Heap→Prop):Prop:=
 match r with
 | none=>∀ (rec:LoopState→Option Code→Obj),(∀ s p,E6 (rec s p)=false)→
   (∀ args h1 Q,args.length=np→h1[h.size+1]? = some (rec .ready none)→B (h.size+1) rec args h1 Q→jh P (h.size+1) args h1 Q)→
   us P vf [.func (.yield (h.size+1)) #[] #[]] ((h.push (.deferred (some []))).push (rec .ready none)) fun _ h2=>
    ∃ st pend,h2[h.size+1]? = some (rec st pend)∧st≠.busy∧A pend (h2.setIfInBounds (h.size+1) (rec .exhausted pend))
 | some l0=>(∃ r0,h[l0]? = some (.loop r0))∧∀ (rec:LoopState→Option Code→Obj),(∀ s p,E6 (rec s p)=false)→
   (∀ args h1 Q,args.length=np→h1[h.size]? = some (rec .ready none)→B h.size rec args h1 Q→jh P h.size args h1 Q)→
   us P vf [.func (.yield h.size) #[] #[]] (h.push (rec .ready none)) fun _ h2=>
    ∃ st pend,h2[h.size]? = some (rec st pend)∧st≠.busy∧A pend (h2.setIfInBounds h.size (rec .exhausted pend))
def oC (l:Nat) (rec:LoopState→Option Code→Obj) (Q:Value→Heap→Prop) (e:Exit) (φ:Fr) (h:Heap):Prop:=
 match e with
 | .normal=>h[l]? = some (rec .busy none)∧Q (.bool true) (h.setIfInBounds l (rec .ready none))
 | .ret=>h[l]? = some (rec .busy none)∧Q (.bool false) (h.setIfInBounds l (rec .done (some .ret)))
 | .exit i=>h[l]? = some (rec .busy none)∧Q (.bool false) (h.setIfInBounds l (rec .done (some (.exit i))))
 | _=>False
def kg (φ:Fr):List Tmp→List Value→Fr
 | t::ts,v::vs=>kg (φ.put (some t) v) ts vs
 | _,_=>φ
def mark (r:Option Nat) (φ:Fr) (d:Nat):Fr:=
 match r with
 | none=>{ s:=φ.s,m:=d::φ.m }
 | some _=>φ
def rM (l:List (Nat×Value)) (t:Nat):Option Value:=
 match l with
 | []=>none
 | (u,v)::r=>bif Nat.beq t u then some v else rM r t
def mQ (enc:List (Nat×Value)) (m:Nat) (φ:Fr):Fr:=
 { s:=fun t=>match rM enc t with
    | some v=>some v
    | none=>bif aV m t then none else φ.s t
   m:=φ.m }
def n7 (enc:List (Nat×Value)) (m:Nat) (φ:Fr) (ms:List Nat):Fr:={ s:=(mQ enc m φ).s,m:=ms }
def tM (P:Program) (n:Nat) (ann:Nat→dJ) (tys:Nat→List TypeId) (pl:Nat→Option fU):(r:Option Nat)→Code→Nat→Fr→Heap→(Exit→Fr→Heap→Prop)→Prop
 | _,.skip,_,φ,h,K=>K .normal φ h
 | _,.label _,_,φ,h,K=>K .normal φ h
 | r,.seq a b,cur,φ,h,K=>tM P n ann tys pl r a cur φ h fun e φ' h'=>match e with
   | .normal=>tM P n ann tys pl r b cur φ' h' K
   | e=>K e φ' h'
 | r,.cond c x y,cur,φ,h,K=>rd n φ c fun v=>match v with
   | .bool t=>cond t (tM P n ann tys pl r x cur φ h K) (tM P n ann tys pl r y cur φ h K)
   | _=>False
 | r,.block id c,cur,φ,h,K=>tM P n ann tys pl r c id φ h fun e φ' h'=>match e with
   | .exit i=>cond (Nat.beq i id) (K .normal φ' h') (K (.exit i) φ' h')
   | e=>K e φ' h'
 | _,.exit i,_,φ,h,K=>K (.exit i) φ h
 | _,.ret,_,φ,h,K=>K .ret φ h
 | r,.loop c,cur,φ,h,K=>cond (jd c) ((ann cur).dec φ.s fun s0=>bf (fun again s h=>tM P n ann tys pl r c cur (mQ ((ann cur).enc s) (fN c) φ) h fun e φ' h'=>match e with
   | .normal=>(ann cur).dec φ'.s fun s'=>again s' h'
   | e=>K e φ' h') s0 h)
     ((ann cur).dec φ.s fun s0=>bf (fun again sm h=>tM P n ann tys pl r c cur (n7 ((ann cur).enc sm.1) (fN c) φ sm.2) h fun e φ' h'=>match e with
       | .normal=>(ann cur).dec φ'.s fun s'=>again (s',φ'.m) h'
       | e=>K e φ' h') (s0,φ.m) h)
 | _,.region id ops draw,_,φ,h,K=>cond draw
   (match pl id with
   | some p=>cond (P.follows .mixedOrders&&jb p ops) (zd P n (tys (1000+id)) ops p φ (ops.size+1) 0 φ h fun φ' h'=>K .normal φ' h') False
   | none=>cond (P.follows .mixedOrders&&Region.lexB .any ops&&ops.toList.all (fun o=>cS o.op)) (g7 P n ops ops.toList φ h fun φ'=>K .normal φ' h) False)
   (j0 P n (tys (1000+id)) ops ops.toList φ h fun φ' h'=>K .normal φ' h')
 | r,.rangeFunc f ps assign body,cur,φ,h,K=>rd n φ f fun vf=>kX P vf ps.size r h
   (fun l rec args h1 Q=>DH P (tys cur) fun vs=>args=vs∧tM P n ann tys pl (some l) assign cur (kg { s:=φ.s,m:=[] } ps.toList vs) h1 fun e φ1 h2=>match e with
    | .normal=>h2[l]? = some (rec .ready none)∧tM P n ann tys pl (some l) body cur φ1 (h2.setIfInBounds l (rec .busy none)) (oC l rec Q)
    | _=>False)
   (fun pend h2=>after (mark r φ h.size) h2 K pend (i3 body))
 | _,_,_,_,_,_=>False
variable {base:List Deferred}
theorem ox:∀ {l:List (Nat×Value)} {t:Nat} {v:Value},rM l t=some v→(t,v)∈l:=by
 intro l
 induction l with
 | nil=>intro t v h; cases h
 | cons p r ih=>
   intro t v h;obtain ⟨u,x⟩:=p;simp only [rM] at h
   cases hb:Nat.beq t u with
   | true=>
     rw [hb] at h;obtain rfl:=Nat.eq_of_beq_eq_true hb;simp only [ae,Option.some.injEq] at h;subst h;exact mem_cons_self
   | false=>
     rw [hb] at h;exact aD _ (ih h)
theorem qL {n m:Nat} {enc:List (Nat×Value)} {φ φ':Fr} {a a':Act} (ha:FA base n φ a) (ha':FA base n φ' a') (hm:φ'.m=φ.m) (he:∀ p∈enc,φ'.s p.1=some p.2) (hag:df m a a'):FA base n (mQ enc m φ) a':=by
 refine ⟨by rw [ha'.defers,hm]; rfl,ha'.size,fun t v hv ht=>?_⟩
 simp only [mQ] at hv
 split at hv
 · rename_i u hu;simp only [Option.some.injEq] at hv;subst hv;exact ha'.slots t u (he _ (ox hu)) ht
 · cases hb:aV m t with
   | true=>rw [hb] at hv; cases hv
   | false=>
     rw [hb] at hv;rw [hag t hb];exact ha.slots t v hv ht
theorem o9 {n m:Nat} {enc:List (Nat×Value)} {φ φ':Fr} {a a':Act} (ha:FA base n φ a) (ha':FA base n φ' a') (he:∀ p∈enc,φ'.s p.1=some p.2) (hag:df m a a'):FA base n (n7 enc m φ φ'.m) a':=by
 refine ⟨ha'.defers,ha'.size,fun t v hv ht=>?_⟩
 simp only [n7,mQ] at hv
 split at hv
 · rename_i u hu;simp only [Option.some.injEq] at hv;subst hv;exact ha'.slots t u (he _ (ox hu)) ht
 · cases hb:aV m t with
   | true=>rw [hb] at hv; cases hv
   | false=>
     rw [hb] at hv;rw [hag t hb];exact ha.slots t v hv ht
theorem qz {n:Nat}:∀ {ts:List Tmp} {vs:List Value} {φ:Fr} {a:Act},FA base n φ a→FA base n (kg φ ts vs) { a with tmps:=(ts.zip vs).foldl (fun tmps p=>tmps.setIfInBounds p.1 p.2) a.tmps }
 | [],_,φ,a,h=>by simpa [kg] using h
 | t::ts,[],φ,a,h=>by simpa [kg] using h
 | t::ts,v::vs,φ,a,h=>by
   have h1:=h.put (some t) v;have h2:=qz (ts:=ts) (vs:=vs) h1;simpa [kg,Act.put] using h2
theorem nL {P:Program} {r:Option Nat} {Q:Exit→Act→World→Prop} {K:Exit→Fr→Heap→Prop} {φ:Fr} {h:Heap} {a:Act} {w:World} {pend:Option Code} {js:List J}
  (H:after φ h K pend js) (hQ:∀ e,K e φ h→Q e a w) :
  match pend with
  | none=>Q .normal a w
  | some c=>c.wpIn (FW r) 0 P Q a w:=by
 have jm:∀ j:J,Ht φ h K j→j.code.wpIn (FW r) 0 P Q a w:=fun j hj=>by
  cases j with
  | ret=>exact wpIn_ret (hQ .ret hj)
  | exit i=>exact wpIn_exit (hQ (.exit i) hj)
 match js,H with
 | [],⟨h1,h2⟩=>subst h1; exact hQ _ h2
 | [j],⟨h1,h2,h3⟩=>
   rcases h1 with rfl | rfl
   · exact hQ _ (h2 rfl)
   · exact jm j (h3 rfl)
 | [j,j'],⟨h1,h2,h3,h4⟩=>
   rcases h1 with rfl | rfl | rfl
   · exact hQ _ (h2 rfl)
   · exact jm j (h3 rfl)
   · exact jm j' (h4 rfl)
theorem rh {P:Program} {vf:Value} {vs:List Value} {h:Heap} {R:Value→Heap→Prop} (H:us P vf vs h R) :
  ∃ f first cap,vf=.func (.func f) first cap∧aE P f (first.toList++vs++cap.toList) h R:=by
 unfold us at H
 split at H
 · exact ⟨_,_,_,rfl,H⟩
 · exact H.elim
section
variable {P:Program} {n:Nat} {ann:Nat→dJ} {tys:Nat→List TypeId} {pl:Nat→Option fU}
theorem ln {l:Nat} {rl:Go.Loop} {ps:Array Tmp} {assign body:Code} {cur:Nat} {φ:Fr} {a:Act}
  (ihA:∀ {base:List Deferred} r cur φ h K a w Q,tM P n ann tys pl r assign cur φ h K→FA base n φ a→w.heap=h→(∀ e φ' a' w',K e φ' w'.heap→FA base n φ' a'→fH w w'→df (fN assign) a a'→(jd assign=true→φ'.m=φ.m)→Q e a' w')→assign.wpIn (FW r) 0 P Q a w)
  (ihB:∀ {base:List Deferred} r cur φ h K a w Q,tM P n ann tys pl r body cur φ h K→FA base n φ a→w.heap=h→(∀ e φ' a' w',K e φ' w'.heap→FA base n φ' a'→fH w w'→df (fN body) a a'→(jd body=true→φ'.m=φ.m)→Q e a' w')→body.wpIn (FW r) 0 P Q a w)
  (ha:FA base n φ a) (hps:rl.params=ps) (htm:rl.tmps=a.tmps) (hasg:rl.assign=assign) (hbody:rl.body=body)
  {args:List Value} {h1:Heap} {Q:Value→Heap→Prop} (hlen:args.length=ps.size) (hl:h1[l]? = some (.loop { rl with state:=.ready,pending:=none }))
  (H:DH P (tys cur) fun vs=>args=vs∧tM P n ann tys pl (some l) assign cur (kg { s:=φ.s,m:=[] } ps.toList vs) h1 fun e φ1 h2=>match e with
   | .normal=>h2[l]? = some (.loop { rl with state:=.ready,pending:=none })∧tM P n ann tys pl (some l) body cur φ1 (h2.setIfInBounds l (.loop { rl with state:=.busy,pending:=none })) (oC l (fun st p=>.loop { rl with state:=st,pending:=p }) Q)
   | _=>False):jh P l args h1 Q:=by
 intro w1 hw1
 subst hw1
 obtain ⟨vs,rfl,H⟩:=jy H
 have hy:=run_yield (P:=P) (w:=w1) (args:=args.toArray) hl (by simpa [hps] using hlen)
 refine ⟨_,_,_,_,hy,roundIn_of_wpIn trivial ?_⟩
 simp only [hps,htm,hasg,hbody]
 have hfa:FA [] n (kg { s:=φ.s,m:=[] } ps.toList args) { tmps:=(ps.zip args.toArray).foldl (fun tmps (t,a)=>tmps.setIfInBounds t a) a.tmps,defers:=[] }:=by
  have h0:FA [] n { s:=φ.s,m:=[] } { tmps:=a.tmps,defers:=[] }:=⟨rfl,ha.size,ha.slots⟩
  have:=qz (ts:=ps.toList) (vs:=args) h0;rw [← Array.foldl_toList];simpa using this
 rw [show (Fence.wide.inRound l)=FW (some l) from rfl]
 refine ihA (some l) cur _ _ _ _ _ _ H hfa rfl ?_
 intro e φ1 a1 w2 hq hfa1 hs1 _ _
 cases e <;> simp only [] at hq <;> first | exact hq.elim | skip
 obtain ⟨hl2,hb⟩:=hq
 refine ⟨_,run_beginRound hl2 rfl,?_⟩
 refine ihB (some l) cur _ _ _ _ _ _ hb hfa1 rfl ?_
 intro e φ2 a2 w3 hq2 _ hs2 _ _
 have hs3:fH w1 w3:=hs1.trans ⟨hs2.os,hs2.tape,hs2.output⟩
 cases e <;> simp only [oC] at hq2 <;> first | exact hq2.elim | skip
 · exact ⟨_,_,run_endRound none hq2.1,_,rfl,hq2.2,⟨hs3.os,hs3.tape,hs3.output⟩⟩
 · exact ⟨_,_,run_endRound (some (.exit _)) hq2.1,_,rfl,hq2.2,⟨hs3.os,hs3.tape,hs3.output⟩⟩
 · exact ⟨_,_,run_endRound (some .ret) hq2.1,_,rfl,hq2.2,⟨hs3.os,hs3.tape,hs3.output⟩⟩
theorem w7:∀ (c:Code) {base:List Deferred} (r:Option Nat) (cur:Nat) (φ:Fr) (h:Heap) (K:Exit→Fr→Heap→Prop) (a:Act) (w:World) (Q:Exit→Act→World→Prop),
  tM P n ann tys pl r c cur φ h K→FA base n φ a→w.heap=h→
  (∀ e φ' a' w',K e φ' w'.heap→FA base n φ' a'→fH w w'→df (fN c) a a'→(jd c=true→φ'.m=φ.m)→Q e a' w')→c.wpIn (FW r) 0 P Q a w:=by
 intro c
 induction c with
 | skip=>intro base r cur φ h K a w Q H ha hw hQ; subst hw; exact wpIn_skip (hQ _ _ _ _ H ha (.refl w) (.refl _ a) fun _=>rfl)
 | label l=>intro base r cur φ h K a w Q H ha hw hQ; subst hw; exact wpIn_label (hQ _ _ _ _ H ha (.refl w) (.refl _ a) fun _=>rfl)
 | exit i=>intro base r cur φ h K a w Q H ha hw hQ; subst hw; exact wpIn_exit (hQ _ _ _ _ H ha (.refl w) (.refl _ a) fun _=>rfl)
 | ret=>intro base r cur φ h K a w Q H ha hw hQ; subst hw; exact wpIn_ret (hQ _ _ _ _ H ha (.refl w) (.refl _ a) fun _=>rfl)
 | goto l=>intro base r cur φ h K a w Q H; exact H.elim
 | scope c _=>intro base r cur φ h K a w Q H; exact H.elim
 | refuse why=>intro base r cur φ h K a w Q H; exact H.elim
 | seq x y ihx ihy=>
   intro base r cur φ h K a w Q H ha hw hQ;refine wpIn_seq (ihx r cur φ h _ a w _ H ha hw ?_);intro e φ' a' w' hq ha' hs hag hm
   cases e with
   | normal=>
     refine ihy r cur φ' _ K a' w' _ hq ha' rfl ?_;intro e φ2 a2 w2 hq2 ha2 hs2 hag2 hm2;refine hQ e φ2 a2 w2 hq2 ha2 (hs.trans hs2) (hag.left.trans hag2.right) fun hn=>?_;simp only [jd,ay] at hn;exact (hm2 hn.2).trans (hm hn.1)
   | exit i=>exact hQ _ _ _ _ hq ha' hs hag.left fun hn=>hm (by simp only [jd,ay] at hn; exact hn.1)
   | goto i=>exact hQ _ _ _ _ hq ha' hs hag.left fun hn=>hm (by simp only [jd,ay] at hn; exact hn.1)
   | ret=>exact hQ _ _ _ _ hq ha' hs hag.left fun hn=>hm (by simp only [jd,ay] at hn; exact hn.1)
   | panic ch=>exact hQ _ _ _ _ hq ha' hs hag.left fun hn=>hm (by simp only [jd,ay] at hn; exact hn.1)
   | outgrown=>exact hQ _ _ _ _ hq ha' hs hag.left fun hn=>hm (by simp only [jd,ay] at hn; exact hn.1)
 | cond c x y ihx ihy=>
   intro base r cur φ h K a w Q H ha hw hQ;obtain ⟨v,hv,H⟩:=bw H;cases v <;> simp only [] at H <;> first | exact H.elim | skip
   rename_i t;refine wpIn_cond (bg ha hv) ?_
   cases t with
   | true=>exact ihx r cur φ h K a w _ H ha hw fun e φ' a' w' hq ha' hs hag hm=>hQ e φ' a' w' hq ha' hs hag.left fun hn=>hm (by simp only [jd,ay] at hn; exact hn.1)
   | false=>exact ihy r cur φ h K a w _ H ha hw fun e φ' a' w' hq ha' hs hag hm=>hQ e φ' a' w' hq ha' hs hag.right fun hn=>hm (by simp only [jd,ay] at hn; exact hn.2)
 | block id c ih=>
   intro base r cur φ h K a w Q H ha hw hQ;refine wpIn_block (ih r id φ h _ a w _ H ha hw ?_);intro e φ' a' w' hq ha' hs hag hm
   cases e with
   | exit i=>
     simp only [] at hq;simp only [Exit.inBlock]
     cases hb:Nat.beq i id with
     | true=>
       rw [hb] at hq;rw [an (Nat.eq_of_beq_eq_true hb)];exact hQ _ _ _ _ hq ha' hs hag hm
     | false=>
       rw [hb] at hq;rw [am (fun e=>by rw [e,Nat.beq_refl] at hb; cases hb)];exact hQ _ _ _ _ hq ha' hs hag hm
   | normal=>exact hQ _ _ _ _ hq ha' hs hag hm
   | goto i=>exact hQ _ _ _ _ hq ha' hs hag hm
   | ret=>exact hQ _ _ _ _ hq ha' hs hag hm
   | panic ch=>exact hQ _ _ _ _ hq ha' hs hag hm
   | outgrown=>exact hQ _ _ _ _ hq ha' hs hag hm
 | loop c ih=>
   intro base r cur φ h K a w Q H ha hw hQ;simp only [tM] at H
   cases hn:jd c with
   | false=>
     rw [hn] at H;obtain ⟨s0,hs0,J,μ,h0,hround⟩:=(ann cur).ok _ _ H;have hno:jd (.loop c)=true→False:=fun e=>by simp only [jd] at e; rw [hn] at e; cases e
     refine wpIn_loop_ghost (fun k a' w'=>∃ s ms,J (s,ms) w'.heap∧μ (s,ms) w'.heap=k∧FA base n (n7 ((ann cur).enc s) (fN c) φ ms) a'∧df (fN c) a a'∧fH w w') (μ (s0,φ.m) h)
      ⟨s0,φ.m,hw▸h0,by rw [hw],o9 ha ha hs0 (.refl _ a),.refl _ a,.refl w⟩ ?_
     rintro k a1 w1 ⟨s,ms,hJ,rfl,ha1,hag1,hs1⟩;refine ih r cur _ _ _ a1 w1 _ (hround (s,ms) w1.heap hJ) ha1 rfl ?_;intro e φ2 a2 w2 hq ha2 hs2 hag2 hm2
     cases e with
     | normal=>
       obtain ⟨s',he,hJ',hlt⟩:=(ann cur).ok _ _ hq;exact ⟨_,hlt,s',φ2.m,hJ',rfl,o9 ha ha2 he (hag1.trans hag2),hag1.trans hag2,hs1.trans hs2⟩
     | exit i=>exact hQ _ _ _ _ hq ha2 (hs1.trans hs2) (hag1.trans hag2) fun e=>(hno e).elim
     | goto i=>exact hQ _ _ _ _ hq ha2 (hs1.trans hs2) (hag1.trans hag2) fun e=>(hno e).elim
     | ret=>exact hQ _ _ _ _ hq ha2 (hs1.trans hs2) (hag1.trans hag2) fun e=>(hno e).elim
     | panic ch=>exact hQ _ _ _ _ hq ha2 (hs1.trans hs2) (hag1.trans hag2) fun e=>(hno e).elim
     | outgrown=>exact hQ _ _ _ _ hq ha2 (hs1.trans hs2) (hag1.trans hag2) fun e=>(hno e).elim
   | true=>
     rw [hn] at H;obtain ⟨s0,hs0,J,μ,h0,hround⟩:=(ann cur).ok _ _ H;refine wpIn_loop_ghost (fun k a' w'=>∃ s,J s w'.heap∧μ s w'.heap=k∧FA base n (mQ ((ann cur).enc s) (fN c) φ) a'∧df (fN c) a a'∧fH w w') (μ s0 h)
      ⟨s0,hw▸h0,by rw [hw],qL ha ha rfl hs0 (.refl _ a),.refl _ a,.refl w⟩ ?_
     rintro k a1 w1 ⟨s,hJ,rfl,ha1,hag1,hs1⟩;refine ih r cur _ _ _ a1 w1 _ (hround s w1.heap hJ) ha1 rfl ?_;intro e φ2 a2 w2 hq ha2 hs2 hag2 hm2;have hm2':φ2.m=φ.m:=hm2 hn
     cases e with
     | normal=>
       obtain ⟨s',he,hJ',hlt⟩:=(ann cur).ok _ _ hq;exact ⟨_,hlt,s',hJ',rfl,qL ha ha2 hm2' he (hag1.trans hag2),hag1.trans hag2,hs1.trans hs2⟩
     | exit i=>exact hQ _ _ _ _ hq ha2 (hs1.trans hs2) (hag1.trans hag2) fun _=>hm2'
     | goto i=>exact hQ _ _ _ _ hq ha2 (hs1.trans hs2) (hag1.trans hag2) fun _=>hm2'
     | ret=>exact hQ _ _ _ _ hq ha2 (hs1.trans hs2) (hag1.trans hag2) fun _=>hm2'
     | panic ch=>exact hQ _ _ _ _ hq ha2 (hs1.trans hs2) (hag1.trans hag2) fun _=>hm2'
     | outgrown=>exact hQ _ _ _ _ hq ha2 (hs1.trans hs2) (hag1.trans hag2) fun _=>hm2'
 | region id ops draw=>
   intro base r cur φ h K a w Q H ha hw hQ;simp only [tM] at H
   cases draw with
   | false=>
     exact rR H ha hw fun φ' a' w' hq ha' hs hag hm=>hQ _ _ _ _ hq ha' hs hag fun _=>hm
   | true=>
     simp only [ae] at H;split at H
     · rename_i p hpl
       cases hb:(P.follows .mixedOrders&&jb p ops) with
       | false=>rw [hb] at H; exact H.elim
       | true=>
         rw [hb] at H;simp only [ay] at hb;exact tJ hb.1 hb.2 H ha hw fun φ' a' w' hq ha' hs hag hm=>hQ _ _ _ _ hq ha' hs hag fun _=>hm
     cases hb:(P.follows .mixedOrders&&Region.lexB .any ops&&ops.toList.all (fun o=>cS o.op)) with
     | false=>rw [hb] at H; exact H.elim
     | true=>
       rw [hb] at H;simp only [ay] at hb;have hall:ops.all (fun o=>cS o.op)=true:=by rw [← Array.all_toList]; exact hb.2
       exact vd hb.1.1 hb.1.2 hall H ha hw fun φ' a' w' hq ha' hw' hs hag hm=>hQ _ _ _ _ (hw'▸hq) ha' hs hag fun _=>hm
 | rangeFunc f ps assign body ihA ihB=>
   intro base r cur φ h K a w Q H ha hw hQ;obtain ⟨vf,hf,H⟩:=bw H;refine wpIn_rangeFunc fun fn hfn=>?_;subst hw
   cases r with
   | none=>
     simp only [kX] at H;have H1:=H (fun st p=>.loop { state:=st,pending:=p,fn:=fn,tmps:=a.tmps,params:=ps,assign:=assign,body:=body,defers:=w.heap.size }) (fun _ _=>rfl)
      (fun args h1 Q hlen hl hB=>ln (rl:={ state:=.ready,pending:=none,fn:=fn,tmps:=a.tmps,params:=ps,assign:=assign,body:=body,defers:=w.heap.size }) ihA ihB ha rfl rfl rfl rfl hlen hl hB)
     obtain ⟨f,first,cap,rfl,H2⟩:=rh H1;refine ⟨w.heap.size+1,[{ target:=.collected w.heap.size,args:=#[] }],((w.alloc (.deferred (some []))).alloc (.loop { state:=.ready,pending:=none,fn:=fn,tmps:=a.tmps,params:=ps,assign:=assign,body:=body,defers:=w.heap.size })),{ target:=.fn (.func f) cap,args:=first++#[.func (.yield (w.heap.size+1)) #[] #[]] },((w.alloc (.deferred (some []))).alloc (.loop { state:=.ready,pending:=none,fn:=fn,tmps:=a.tmps,params:=ps,assign:=assign,body:=body,defers:=w.heap.size })),f,
      (first.toList++[Value.func (.yield (w.heap.size+1)) #[] #[]]++cap.toList).toArray,((w.alloc (.deferred (some []))).alloc (.loop { state:=.ready,pending:=none,fn:=fn,tmps:=a.tmps,params:=ps,assign:=assign,body:=body,defers:=w.heap.size })),run_enterLoop_outer _ _ _ _ _,?_,fun _ _=>trivial,?_,kR,?_⟩
     · have e1:∀ v:Value,Array.map a.eval #[Operand.const v]=#[v]:=fun v=>by simp [Act.eval]
       simp only [resolve,bg ha hf,Deferred.ofValue,e1]
       rfl
     · simp only [invoke];rw [show (first++#[Value.func (.yield (w.heap.size+1)) #[] #[]]++cap)=(first.toList++[Value.func (.yield (w.heap.size+1)) #[] #[]]++cap.toList).toArray from Array.ext' (by simp)];exact gp H2.1 _ _
     · refine mt (CallsIn.mono (H2.2 _ rfl) ?_);rintro e w3 ⟨v,rfl,⟨st,pend,hl3,hst,hA⟩,hs3⟩;refine ⟨pend,_,run_endLoop hl3 hst,?_⟩;have hfa:FA base n (Go.Proofs.YtdpaiiibndnanaaGreatDoor.mark none φ w.heap.size) { a with defers:=[{ target:=.collected w.heap.size,args:=#[] }]++a.defers }:=
        ⟨by simp [Go.Proofs.YtdpaiiibndnanaaGreatDoor.mark,ha.defers],ha.size,ha.slots⟩
       have:=nL (P:=P) (r:=none) (Q:=Q) (a:={ a with defers:=[{ target:=.collected w.heap.size,args:=#[] }]++a.defers }) (w:=w3.putObj (w.heap.size+1) (.loop { state:=.exhausted,pending:=pend,fn:=fn,tmps:=a.tmps,params:=ps,assign:=assign,body:=body,defers:=w.heap.size })) hA
        (fun e he=>hQ e _ _ _ he hfa ⟨hs3.os,hs3.tape,hs3.output⟩ (fun _ _=>rfl) (fun hn=>by cases hn))
       cases pend <;> exact this
   | some l0=>
     simp only [kX] at H;obtain ⟨⟨r0,hr0⟩,H⟩:=H;have H1:=H (fun st p=>.loop { state:=st,pending:=p,fn:=fn,tmps:=a.tmps,params:=ps,assign:=assign,body:=body,defers:=r0.defers }) (fun _ _=>rfl)
      (fun args h1 Q hlen hl hB=>ln (rl:={ state:=.ready,pending:=none,fn:=fn,tmps:=a.tmps,params:=ps,assign:=assign,body:=body,defers:=r0.defers }) ihA ihB ha rfl rfl rfl rfl hlen hl hB)
     obtain ⟨f,first,cap,rfl,H2⟩:=rh H1;refine ⟨w.heap.size,[],(w.alloc (.loop { state:=.ready,pending:=none,fn:=fn,tmps:=a.tmps,params:=ps,assign:=assign,body:=body,defers:=r0.defers })),{ target:=.fn (.func f) cap,args:=first++#[.func (.yield w.heap.size) #[] #[]] },(w.alloc (.loop { state:=.ready,pending:=none,fn:=fn,tmps:=a.tmps,params:=ps,assign:=assign,body:=body,defers:=r0.defers })),f,
      (first.toList++[Value.func (.yield w.heap.size) #[] #[]]++cap.toList).toArray,(w.alloc (.loop { state:=.ready,pending:=none,fn:=fn,tmps:=a.tmps,params:=ps,assign:=assign,body:=body,defers:=r0.defers })),run_enterLoop_inner hr0 _ _ _ _ _,?_,fun _ _=>trivial,?_,kR,?_⟩
     · have e1:∀ v:Value,Array.map a.eval #[Operand.const v]=#[v]:=fun v=>by simp [Act.eval]
       simp only [resolve,bg ha hf,Deferred.ofValue,e1]
       rfl
     · simp only [invoke];rw [show (first++#[Value.func (.yield w.heap.size) #[] #[]]++cap)=(first.toList++[Value.func (.yield w.heap.size) #[] #[]]++cap.toList).toArray from Array.ext' (by simp)];exact gp H2.1 _ _
     · refine mt (CallsIn.mono (H2.2 _ rfl) ?_);rintro e w3 ⟨v,rfl,⟨st,pend,hl3,hst,hA⟩,hs3⟩;refine ⟨pend,_,run_endLoop hl3 hst,?_⟩;have:=nL (P:=P) (r:=some l0) (Q:=Q) (a:=a) (w:=w3.putObj w.heap.size (.loop { state:=.exhausted,pending:=pend,fn:=fn,tmps:=a.tmps,params:=ps,assign:=assign,body:=body,defers:=r0.defers })) hA
        (fun e he=>hQ e _ _ _ he ha ⟨hs3.os,hs3.tape,hs3.output⟩ (fun _ _=>rfl) (fun hn=>by cases hn))
       cases pend <;> exact this
end
def yQ (args:List Value) (n:Nat):Fr:=
 { s:=fun t=>match args[t]? with
    | some v=>some v
    | none=>some undef
   m:=[] }
def oN (P:Program) (n:Nat) (φ:Fr) (h:Heap):List ResultVar→(List Value→Prop)→Prop
 | [],K=>K []
 | .tmp t::rs,K=>rd n φ (.tmp t) fun v=>oN P n φ h rs fun vs=>K (v::vs)
 | .cell a T::rs,K=>rd n φ (.tmp a) fun v=>match v with
   | .pointer (some ad)=>nW P (loadVar T ad) h fun v=>dec P T v fun v=>oN P n φ h rs fun vs=>K (v::vs)
   | _=>False
def oV (vs:List Value):Value:=
 match vs with
 | [v]=>v
 | vs=>.tuple vs.toArray
def lI:List Nat→Heap→(Heap→Prop)→Prop
 | [],h,K=>K h
 | d::ds,h,K=>h[d]? = some (.deferred (some []))∧lI ds (h.setIfInBounds d (.deferred none)) K
def po (P:Program) (fn:Func) (ann:Nat→dJ) (tys:Nat→List TypeId) (pl:Nat→Option fU) (args:List Value) (h:Heap) (Q:Value→Heap→Prop):Prop:=
 match fn.body with
 | none=>False
 | some c=>cond (decide (args.length≤fn.ntmps)) (tM P fn.ntmps ann tys pl none c 0 (yQ args fn.ntmps) h fun e φ h'=>match e with
   | .normal=>lI φ.m h' fun h'=>oN P fn.ntmps φ h' fn.results.toList fun vs=>Q (oV vs) h'
   | .ret=>lI φ.m h' fun h'=>oN P fn.ntmps φ h' fn.results.toList fun vs=>Q (oV vs) h'
   | _=>False) False
def qu (tmps:Array Value):ResultVar→Sem Value
 | .tmp t=>pure (tmps.getD t undef)
 | .cell a t=>do loadVar t (← asAddr (tmps.getD a undef))
theorem kf {P:Program} {n:Nat} {φ:Fr} {a:Act} (ha:FA base n φ a) {w:World}:∀ {rs:List ResultVar} {K:List Value→Prop},oN P n φ w.heap rs K→
  ∃ vs,(rs.mapM (qu a.tmps)).run P w=.ok vs w∧K vs
 | [],K,h=>⟨[],rfl,h⟩
 | .tmp t::rs,K,h=>by
   obtain ⟨v,hv,h⟩:=bw h;obtain ⟨vs,hvs,h⟩:=kf ha h;have:a.tmps.getD t undef=v:=bg ha hv;exact ⟨v::vs,by simp only [List.mapM_cons,Sem.run_bind,qu,Sem.run_pure,Result.andThen_ok,this,hvs],h⟩
 | .cell ad t::rs,K,h=>by
   obtain ⟨v,hv,h⟩:=bw h;split at h
   · obtain ⟨u,hu,h⟩:=jX h;obtain ⟨vs,hvs,h⟩:=kf ha (eF h);have:a.tmps.getD ad undef=_:=bg ha hv;refine ⟨u::vs,?_,h⟩;have e:(qu a.tmps (.cell ad t)).run P w=.ok u w:=by
      simp only [qu,this,asAddr,Sem.run_bind,Sem.run_pure,Result.andThen_ok,hu w rfl]
     simp only [List.mapM_cons,Sem.run_bind,e,Result.andThen_ok,hvs,Sem.run_pure]
   · exact h.elim
theorem p6 {P:Program} {fn:Func} {φ:Fr} {a:Act} {w:World} {Q:Value→Prop} (ha:FA base fn.ntmps φ a) (h:oN P fn.ntmps φ w.heap fn.results.toList fun vs=>Q (oV vs)) :
  ∃ v,(results fn a.tmps).run P w=.ok v w∧Q v:=by
 obtain ⟨vs,hvs,h⟩:=kf ha h
 refine ⟨oV vs,?_,h⟩
 have e:results fn a.tmps=(do
   let l ← fn.results.toList.mapM (qu a.tmps)
   pure (oV l)):=by
  show (do
   let vs ← fn.results.mapM (qu a.tmps)
   pure (if h:vs.size=1 then vs[0] else .tuple vs))=_
  rw [Array.mapM_eq_mapM_toList];simp only [map_eq_pure_bind,bind_assoc,pure_bind];congr 1;funext l;congr 1
  match l with
  | []=>rfl
  | [v]=>rfl
  | v::u::r=>simp [oV]
 rw [e]
 simp only [Sem.run_bind,hvs,Result.andThen_ok,Sem.run_pure]
theorem qO {P:Program} {fn:Func} {tmps:Array Value} {w0:World} {Q:Value→Heap→Prop} :
  ∀ {ds:List Nat} {w:World},(lI ds w.heap fun h'=>∀ w',w'.heap=h'→∃ v,(results fn tmps).run P w'=.ok v w'∧Q v w'.heap)→fH w0 w→
    LeavesInM Fence.wide 0 P fn tmps (fun e w'=>∃ v,e=.returned v∧Q v w'.heap∧fH w0 w') (ds.map fun d=>{ target:=.collected d,args:=#[] }) .returning w
 | [],w,h,hs=>by
   obtain ⟨v,hv,hq⟩:=h w rfl;exact ⟨v,hv,v,rfl,hq,hs⟩
 | d::ds,w,h,hs=>by
   refine ⟨by simp,.inl ⟨d,_,rfl,run_takeDeferred h.1,?_⟩⟩;exact qO (w:=w.putObj d (.deferred none)) h.2 ⟨hs.os,hs.tape,hs.output⟩
theorem nD {K K':Heap→Prop} (hk:∀ h,K h→K' h):∀ {ds:List Nat} {h:Heap},lI ds h K→lI ds h K'
 | [],_,h=>hk _ h
 | _::_,_,h=>⟨h.1,nD hk h.2⟩
theorem fC {P:Program} {f:FuncId} {fn:Func} {ann:Nat→dJ} {tys:Nat→List TypeId} {pl:Nat→Option fU} {args:List Value} {h:Heap} {Q:Value→Heap→Prop}
  (hf:P.funcs[f]? = some fn) (hc:eG P f=true) (H:po P fn ann tys pl args h Q):aE P f args h Q:=by
 refine ⟨hc,fun w hw=>?_⟩
 subst hw
 unfold po at H
 split at H
 · exact H.elim
 · rename_i c hb
   cases hlen:decide (args.length≤fn.ntmps) with
   | false=>rw [hlen] at H; exact H.elim
   | true=>
     rw [hlen] at H;have hlen':args.length≤fn.ntmps:=of_decide_eq_true hlen;refine callsIn_of_wp_marks hf hb trivial ?_;refine w7 (base:=[]) c none 0 _ _ _ _ w _ H ?_ rfl ?_
     · refine ⟨rfl,by simp; omega,fun t v hv ht=>?_⟩;simp only [yQ] at hv
       cases ht2:args[t]? with
       | some u=>
         rw [ht2] at hv;simp only [Option.some.injEq] at hv;subst hv;have hlt:t<args.length:=(ak.1 ht2).1;rw [Array.getElem?_append_left (by simpa using hlt)];simpa using ht2
       | none=>
         rw [ht2] at hv;simp only [Option.some.injEq] at hv;subst hv;have hge:args.length≤t:=List.getElem?_eq_none_iff.1 ht2;rw [Array.getElem?_append_right (by simpa using hge)];rw [Array.getElem?_replicate,an (by simp; omega)]
     · intro e φ' a' w' hq ha' hs _ _;have fin:(lI φ'.m w'.heap fun h'=>oN P fn.ntmps φ' h' fn.results.toList fun vs=>Q (oV vs) h')→
        LeavesInM Fence.wide 0 P fn a'.tmps (fun e w'=>∃ v,e=.returned v∧Q v w'.heap∧fH w w') a'.defers .returning w':=fun hq=>by
        rw [ha'.defers,append_nil];refine qO (nD (fun h' hr w2 hw2=>?_) hq) hs;subst hw2;exact p6 ha' hr
       cases e <;> simp only [] at hq <;> first | exact hq.elim | exact fin hq
def Ld (h:Heap) (a:Addr) (K:Value→Prop):Prop:=∃ v,bI h a=some v∧K v
def DI (k:IntKind) (v:Value) (K:Int→Prop):Prop:=∃ x:Int,v=.int k x∧K x
def DB (v:Value) (K:Bool→Prop):Prop:=∃ x:Bool,v=.bool x∧K x
def DS (v:Value) (K:ByteArray→Prop):Prop:=∃ x:ByteArray,v=.string x∧K x
def DP (v:Value) (K:Option Addr→Prop):Prop:=∃ x:Option Addr,v=.pointer x∧K x
def DM (v:Value) (K:Option Nat→Prop):Prop:=∃ x:Option Nat,v=.map x∧K x
def aZ (v:Value) (K:Option Addr→Nat→Nat→Prop):Prop:=∃ (p:Option Addr) (l c:Nat),v=.slice p l c∧K p l c
def Al (h:Heap) (o:Obj) (K:Nat→Heap→Prop):Prop:=K h.size (h.push o)
def bN (h:Heap) (a:Addr) (v:Value) (K:Heap→Prop):Prop:=(∃ u,bI h a=some u)∧gY h a=false∧K (yn h a v)
abbrev QP := Value → Heap → Prop
abbrev SV (u : Value) : Prop := aJ (some u) u
def nA : Nat → dJ := fun _ => bq
def nT : Nat → List TypeId := fun _ => []
def nP : Nat → Option fU := fun _ => none
structure K0 (P : Program) (F : Heap → QP → Prop) (k : FuncId) (g : List Value) : Prop where
 ap : ∀ {h : Heap} {Q : QP}, F h Q → aE P k (g) h Q
structure K1 {α0 : Type} (P : Program) (F : α0 → Heap → QP → Prop) (k : FuncId) (g : α0 → List Value) : Prop where
 ap : ∀ {a0 : α0} {h : Heap} {Q : QP}, F a0 h Q → aE P k (g a0) h Q
structure K2 {α0 α1 : Type} (P : Program) (F : α0 → α1 → Heap → QP → Prop) (k : FuncId) (g : α0 → α1 → List Value) : Prop where
 ap : ∀ {a0 : α0} {a1 : α1} {h : Heap} {Q : QP}, F a0 a1 h Q → aE P k (g a0 a1) h Q
structure K3 {α0 α1 α2 : Type} (P : Program) (F : α0 → α1 → α2 → Heap → QP → Prop) (k : FuncId) (g : α0 → α1 → α2 → List Value) : Prop where
 ap : ∀ {a0 : α0} {a1 : α1} {a2 : α2} {h : Heap} {Q : QP}, F a0 a1 a2 h Q → aE P k (g a0 a1 a2) h Q
structure K4 {α0 α1 α2 α3 : Type} (P : Program) (F : α0 → α1 → α2 → α3 → Heap → QP → Prop) (k : FuncId) (g : α0 → α1 → α2 → α3 → List Value) : Prop where
 ap : ∀ {a0 : α0} {a1 : α1} {a2 : α2} {a3 : α3} {h : Heap} {Q : QP}, F a0 a1 a2 a3 h Q → aE P k (g a0 a1 a2 a3) h Q
structure K5 {α0 α1 α2 α3 α4 : Type} (P : Program) (F : α0 → α1 → α2 → α3 → α4 → Heap → QP → Prop) (k : FuncId) (g : α0 → α1 → α2 → α3 → α4 → List Value) : Prop where
 ap : ∀ {a0 : α0} {a1 : α1} {a2 : α2} {a3 : α3} {a4 : α4} {h : Heap} {Q : QP}, F a0 a1 a2 a3 a4 h Q → aE P k (g a0 a1 a2 a3 a4) h Q
structure K6 {α0 α1 α2 α3 α4 α5 : Type} (P : Program) (F : α0 → α1 → α2 → α3 → α4 → α5 → Heap → QP → Prop) (k : FuncId) (g : α0 → α1 → α2 → α3 → α4 → α5 → List Value) : Prop where
 ap : ∀ {a0 : α0} {a1 : α1} {a2 : α2} {a3 : α3} {a4 : α4} {a5 : α5} {h : Heap} {Q : QP}, F a0 a1 a2 a3 a4 a5 h Q → aE P k (g a0 a1 a2 a3 a4 a5) h Q
structure K7 {α0 α1 α2 α3 α4 α5 α6 : Type} (P : Program) (F : α0 → α1 → α2 → α3 → α4 → α5 → α6 → Heap → QP → Prop) (k : FuncId) (g : α0 → α1 → α2 → α3 → α4 → α5 → α6 → List Value) : Prop where
 ap : ∀ {a0 : α0} {a1 : α1} {a2 : α2} {a3 : α3} {a4 : α4} {a5 : α5} {a6 : α6} {h : Heap} {Q : QP}, F a0 a1 a2 a3 a4 a5 a6 h Q → aE P k (g a0 a1 a2 a3 a4 a5 a6) h Q
structure Id {α0 α1 α2 α3 α4 α5 α6 α7 α8 α9 : Type} (P : Program) (F : α0 → α1 → α2 → α3 → α4 → α5 → α6 → α7 → α8 → α9 → Heap → QP → Prop) (k : FuncId) (g : α0 → α1 → α2 → α3 → α4 → α5 → α6 → α7 → α8 → α9 → List Value) : Prop where
 ap : ∀ {a0 : α0} {a1 : α1} {a2 : α2} {a3 : α3} {a4 : α4} {a5 : α5} {a6 : α6} {a7 : α7} {a8 : α8} {a9 : α9} {h : Heap} {Q : QP}, F a0 a1 a2 a3 a4 a5 a6 a7 a8 a9 h Q → aE P k (g a0 a1 a2 a3 a4 a5 a6 a7 a8 a9) h Q
theorem o0 {P : Program} {f : FuncId} {fn : Func} {F : Heap → QP → Prop} {g : List Value} (ann : Nat → dJ) (tys : Nat → List TypeId) (pl : Nat → Option fU) (hf : P.funcs[f]? = some fn) (hc : eG P f = true) (e : (fun h Q => po P fn ann tys pl (g) h Q) = F) : K0 P F f g := ⟨fun H => fC hf hc (by subst e; exact H)⟩
theorem o1 {P : Program} {f : FuncId} {fn : Func} {α0 : Type} {F : α0 → Heap → QP → Prop} {g : α0 → List Value} (ann : Nat → dJ) (tys : Nat → List TypeId) (pl : Nat → Option fU) (hf : P.funcs[f]? = some fn) (hc : eG P f = true) (e : (fun a0 h Q => po P fn ann tys pl (g a0) h Q) = F) : K1 P F f g := ⟨fun H => fC hf hc (by subst e; exact H)⟩
theorem o2 {P : Program} {f : FuncId} {fn : Func} {α0 α1 : Type} {F : α0 → α1 → Heap → QP → Prop} {g : α0 → α1 → List Value} (ann : Nat → dJ) (tys : Nat → List TypeId) (pl : Nat → Option fU) (hf : P.funcs[f]? = some fn) (hc : eG P f = true) (e : (fun a0 a1 h Q => po P fn ann tys pl (g a0 a1) h Q) = F) : K2 P F f g := ⟨fun H => fC hf hc (by subst e; exact H)⟩
theorem o3 {P : Program} {f : FuncId} {fn : Func} {α0 α1 α2 : Type} {F : α0 → α1 → α2 → Heap → QP → Prop} {g : α0 → α1 → α2 → List Value} (ann : Nat → dJ) (tys : Nat → List TypeId) (pl : Nat → Option fU) (hf : P.funcs[f]? = some fn) (hc : eG P f = true) (e : (fun a0 a1 a2 h Q => po P fn ann tys pl (g a0 a1 a2) h Q) = F) : K3 P F f g := ⟨fun H => fC hf hc (by subst e; exact H)⟩
theorem o4 {P : Program} {f : FuncId} {fn : Func} {α0 α1 α2 α3 : Type} {F : α0 → α1 → α2 → α3 → Heap → QP → Prop} {g : α0 → α1 → α2 → α3 → List Value} (ann : Nat → dJ) (tys : Nat → List TypeId) (pl : Nat → Option fU) (hf : P.funcs[f]? = some fn) (hc : eG P f = true) (e : (fun a0 a1 a2 a3 h Q => po P fn ann tys pl (g a0 a1 a2 a3) h Q) = F) : K4 P F f g := ⟨fun H => fC hf hc (by subst e; exact H)⟩
theorem o5 {P : Program} {f : FuncId} {fn : Func} {α0 α1 α2 α3 α4 : Type} {F : α0 → α1 → α2 → α3 → α4 → Heap → QP → Prop} {g : α0 → α1 → α2 → α3 → α4 → List Value} (ann : Nat → dJ) (tys : Nat → List TypeId) (pl : Nat → Option fU) (hf : P.funcs[f]? = some fn) (hc : eG P f = true) (e : (fun a0 a1 a2 a3 a4 h Q => po P fn ann tys pl (g a0 a1 a2 a3 a4) h Q) = F) : K5 P F f g := ⟨fun H => fC hf hc (by subst e; exact H)⟩
theorem o6 {P : Program} {f : FuncId} {fn : Func} {α0 α1 α2 α3 α4 α5 : Type} {F : α0 → α1 → α2 → α3 → α4 → α5 → Heap → QP → Prop} {g : α0 → α1 → α2 → α3 → α4 → α5 → List Value} (ann : Nat → dJ) (tys : Nat → List TypeId) (pl : Nat → Option fU) (hf : P.funcs[f]? = some fn) (hc : eG P f = true) (e : (fun a0 a1 a2 a3 a4 a5 h Q => po P fn ann tys pl (g a0 a1 a2 a3 a4 a5) h Q) = F) : K6 P F f g := ⟨fun H => fC hf hc (by subst e; exact H)⟩
theorem o7 {P : Program} {f : FuncId} {fn : Func} {α0 α1 α2 α3 α4 α5 α6 : Type} {F : α0 → α1 → α2 → α3 → α4 → α5 → α6 → Heap → QP → Prop} {g : α0 → α1 → α2 → α3 → α4 → α5 → α6 → List Value} (ann : Nat → dJ) (tys : Nat → List TypeId) (pl : Nat → Option fU) (hf : P.funcs[f]? = some fn) (hc : eG P f = true) (e : (fun a0 a1 a2 a3 a4 a5 a6 h Q => po P fn ann tys pl (g a0 a1 a2 a3 a4 a5 a6) h Q) = F) : K7 P F f g := ⟨fun H => fC hf hc (by subst e; exact H)⟩
theorem It {P : Program} {f : FuncId} {fn : Func} {α0 α1 α2 α3 α4 α5 α6 α7 α8 α9 : Type} {F : α0 → α1 → α2 → α3 → α4 → α5 → α6 → α7 → α8 → α9 → Heap → QP → Prop} {g : α0 → α1 → α2 → α3 → α4 → α5 → α6 → α7 → α8 → α9 → List Value} (ann : Nat → dJ) (tys : Nat → List TypeId) (pl : Nat → Option fU) (hf : P.funcs[f]? = some fn) (hc : eG P f = true) (e : (fun a0 a1 a2 a3 a4 a5 a6 a7 a8 a9 h Q => po P fn ann tys pl (g a0 a1 a2 a3 a4 a5 a6 a7 a8 a9) h Q) = F) : Id P F f g := ⟨fun H => fC hf hc (by subst e; exact H)⟩
end Go.Proofs.YtdpaiiibndnanaaGreatDoor
