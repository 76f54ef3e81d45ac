/- A program logic over heaps: the code of a function as a predicate transformer that computes,and that it is sound. The operations of a function as predicate transformers over heaps,and that these are sound. Regions of operations,in the text's order and in a drawn one,as predicate transformers over heaps,and that these are sound. Regions that draw their order and whose operations leave the heap alone. Regions that draw their order and whose operations write: whatever order is drawn. The code of a function as a predicate transformer over heaps,loops by invariants,ranges over functions by what a round does; and that it is sound. The transformer of code is sound; a function's contract out of its body. The words of the printed texts. -/
import Derived.RangeFuncLeaves
import Derived.Sort.QuietThIn
import Derived.Sort.LoopGhostIn
import Derived.Below
import Derived.KernelRfl
import Derived.WalkKit
import Derived.Laws.StructEq
import Derived.RangeFuncRecord
import Derived.RangeFuncNested
namespace Go.Proofs.YtmemjbiijclbdaaGreat
open Go.Builtin (append_)
open List (getD_eq_getElem?_getD drop_drop getElem?_of_mem append_nil all_eq_true getElem?_drop any_eq_false mem_cons_self getElem_mem)
open Go Go.RowKit
theorem aa.{u}{α:Sort u}(a b:α):(cond false a b)=b:=rfl
theorem ab.{u}{α:Sort u}(a b:α):(cond true a b)=a:=rfl
theorem ae{p:Prop}[inst:Decidable p](h:¬p):decide p=false:=decide_eq_false h
theorem af{p:Prop}[inst:Decidable p](h:p):decide p=true:=decide_eq_true h
theorem ah.{u}{α:Type u}{l:List α}{i:Nat}(h:i<l.length):l[i]? = some l[i]:=List.getElem?_eq_getElem h
theorem ai.{u}{α:Type u}{l:List α}{i:Nat}{a:α}(h:l[i]? = some a):a∈l:=List.mem_of_getElem? h
theorem aj.{u}{α:Type u}{i:Nat}{a:α}{l:List α}:l[i]? = some a↔∃h:i<l.length,l[i]=a:=List.getElem?_eq_some_iff
theorem ak.{u}{c:Prop}{h:Decidable c}(n:¬c){α:Sort u}{t e:α}:(if c then t else e)=e:=if_neg n
theorem al.{u}{c:Prop}{h:Decidable c}(n:c){α:Sort u}{t e:α}:(if c then t else e)=t:=if_pos n
theorem am.{u}{α:Type u}{as bs:List α}:(as++bs).length=as.length+bs.length:=List.length_append
theorem an.{u,v}{α:Type u}{β:Type v}{as:List α}(f:α → β):(List.map f as).length=as.length:=List.length_map f
theorem ao.{u}{α:Type u}{a:α}{as:List α}:(a::as).length=as.length+1:=List.length_cons
theorem aq.{u}{α:Type u}{i:Nat}{l:List α}:(List.take i l).length=min i l.length:=List.length_take
theorem ar.{u}{α:Type u}{i:Nat}{l:List α}(h:l.length≤i):List.take i l=l:=List.take_of_length_le h
theorem au(n:Nat):0≤n:=Nat.zero_le n
theorem av(n:Nat):n≤n:=Nat.le_refl n
theorem aw(a b:Bool):((a&&b)=true)=(a=true∧b=true):=Bool.and_eq_true a b
theorem ax.{u}{α:Type u}{l:List α}{i:Nat}:List.take (i+1) l=List.take i l++l[i]?.toList:=List.take_add_one
theorem ay.{u}{α:Type u}{b:α}{l:List α}{a:α}:a∈b::l↔a=b∨a∈l:=List.mem_cons
theorem az:(!true)=false:=Bool.not_true
theorem aA:(!false)=true:=Bool.not_false
theorem aB.{u}{α:Type u}(y:α){a:α}{l:List α}(h:a∈l):a∈y::l:=List.mem_cons_of_mem y h
set_option linter.unusedVariables false
set_option linter.unusedSimpArgs false
variable {base:List Deferred}
abbrev Heap:=Array Obj
abbrev FW (r:Option Nat):Fence:={ Fence.wide with round:=r }
structure cV (w w':World):Prop where
 os:w'.os=w.os
 tape:w'.tape=w.tape
 output:w'.output=w.output
theorem cV.refl (w:World):cV w w:=⟨rfl,rfl,rfl⟩
theorem cV.trans {a b c:World} (h:cV a b) (k:cV b c):cV a c:=⟨k.os.trans h.os,k.tape.trans h.tape,k.output.trans h.output⟩
structure Fr where
 s:Nat→Option Value
 m:List Nat
def Fr.put (φ:Fr) (d:Option Tmp) (v:Value):Fr:=
 match d with
 | some d=>{ s:=fun t=>bif Nat.beq t d then some v else φ.s t,m:=φ.m }
 | none=>φ
structure FA (base:List Deferred) (n:Nat) (φ:Fr) (a:Act):Prop where
 defers:a.defers=φ.m.map (fun d=>{ target:=.collected d,args:=#[] })++base
 size:a.tmps.size=n
 slots:∀ t v,φ.s t=some v→t<n→a.tmps[t]? = some v
theorem FA.put {n:Nat} {φ:Fr} {a:Act} (h:FA base n φ a) (d:Option Tmp) (v:Value):FA base n (φ.put d v) (a.put d v):=by
 cases d with
 | none=>exact h
 | some d=>
   refine ⟨h.defers,by simp [Act.put,h.size],fun t u hu ht=>?_⟩;simp only [Fr.put] at hu;simp only [Act.put];by_cases e:t=d
   · subst e;rw [show Nat.beq t t=true from Nat.beq_refl t] at hu;simp only [ab,Option.some.injEq] at hu;subst hu;rw [Array.getElem?_setIfInBounds_self];simp [h.size,ht]
   · have hb:Nat.beq t d=false:=by
      cases hh:Nat.beq t d with
      | false=>rfl
      | true=>exact absurd (Nat.eq_of_beq_eq_true hh) e
     rw [hb] at hu;simp only [aa] at hu;rw [Array.getElem?_setIfInBounds_ne (Ne.symm e)];exact h.slots t u hu ht
def ev (n:Nat) (φ:Fr):Operand→Option Value
 | .tmp t=>bif Nat.blt t n then φ.s t else none
 | .const v=>some v
 | .global g=>some (.pointer (some ⟨g,0,none⟩))
 | .func f=>some (.func (.func f) #[] #[])
theorem bf {n:Nat} {φ:Fr} {a:Act} (h:FA base n φ a) {x:Operand} {v:Value} (hx:ev n φ x=some v):a.eval x=v:=by
 cases x with
 | tmp t=>
   simp only [ev] at hx
   cases hb:Nat.blt t n with
   | false=>rw [hb] at hx; cases hx
   | true=>
     rw [hb] at hx;simp only [ab] at hx;have:=h.slots t v hx (by have:=Nat.le_of_ble_eq_true hb; omega);simp [Act.eval,Array.getD_eq_getD_getElem?,this]
 | const u=>simpa [ev,Act.eval] using hx
 | global g=>simpa [ev,Act.eval] using hx
 | func f=>simpa [ev,Act.eval] using hx
def rd (n:Nat) (φ:Fr) (x:Operand) (K:Value→Prop):Prop:=
 match ev n φ x with
 | some v=>K v
 | none=>False
theorem br {n:Nat} {φ:Fr} {x:Operand} {K:Value→Prop} (h:rd n φ x K):∃ v,ev n φ x=some v∧K v:=by
 unfold rd at h
 cases he:ev n φ x with
 | none=>rw [he] at h; exact h.elim
 | some v=>rw [he] at h; exact ⟨v,rfl,h⟩
def zx (n:Nat) (φ:Fr):List Operand→(List Value→Prop)→Prop
 | [],K=>K []
 | x::xs,K=>rd n φ x fun v=>zx n φ xs fun vs=>K (v::vs)
theorem eo {n:Nat} {φ:Fr}:∀ {xs:List Operand} {K:List Value→Prop},zx n φ xs K→
  ∃ vs,(∀ {base:List Deferred} (a:Act),FA base n φ a→xs.map a.eval=vs)∧K vs
 | [],K,h=>⟨[],fun _ _=>rfl,h⟩
 | x::xs,K,h=>by
   obtain ⟨v,hv,h⟩:=br h;obtain ⟨vs,hvs,h⟩:=eo h;exact ⟨v::vs,fun a ha=>by simp [bf ha hv,hvs a ha],h⟩
def cz (h:Heap) (a:Addr):Option Value:=
 match h[a.block]? with
 | some (.cells c _ _)=>if a.spot.isSome then none else c[a.off]?
 | _=>none
def gW (h:Heap) (a:Addr):Bool:=
 match h[a.block]? with
 | some (.cells _ _ (lo,hi))=>lo≤a.off&&a.off<hi
 | _=>false
def By (h:Heap) (a:Addr) (v:Value):Heap:=
 h.modify a.block fun
  | .cells c elem frozen=>.cells (if a.spot.isSome then c else c.setIfInBounds a.off v) elem frozen
  | o=>o
theorem dR (w:World) (a:Addr):w.cell? a=cz w.heap a:=rfl
theorem gV (w:World) (a:Addr):w.frozen? a=gW w.heap a:=rfl
theorem xn (w:World) (a:Addr) (v:Value):(w.setCell a v).heap=By w.heap a v:=rfl
def LL (P:Program) (T:TypeId) (K:Value→Prop):Prop:=
 match P.underlying T with
 | some (.int k)=>∃ x:Int,K (.int k x)
 | some .bool=>∃ b:Bool,K (.bool b)
 | some .string=>∃ s:ByteArray,K (.string s)
 | some (.pointer _)=>∃ p:Option Addr,K (.pointer p)
 | some (.slice _)=>∃ (p:Option Addr) (l c:Nat),K (.slice p l c)
 | some (.map _ _)=>∃ m:Option Nat,K (.map m)
 | _=>∃ v:Value,K v
theorem tg {P:Program} {T:TypeId} {K:Value→Prop} (h:LL P T K):∃ v,K v:=by
 unfold LL at h
 split at h
 · obtain ⟨_,h⟩:=h; exact ⟨_,h⟩
 · obtain ⟨_,h⟩:=h; exact ⟨_,h⟩
 · obtain ⟨_,h⟩:=h; exact ⟨_,h⟩
 · obtain ⟨_,h⟩:=h; exact ⟨_,h⟩
 · obtain ⟨_,_,_,h⟩:=h; exact ⟨_,h⟩
 · obtain ⟨_,h⟩:=h; exact ⟨_,h⟩
 · obtain ⟨_,h⟩:=h; exact ⟨_,h⟩
def L5 (P:Program):(fuel:Nat)→TypeId→List TypeId
 | 0,T=>[T]
 | d+1,T=>
   match P.underlying T with
   | some (.struct fs)=>fs.toList.flatMap fun f=>L5 P d f.type
   | some (.array k e)=>(List.replicate k (L5 P d e)).flatten
   | _=>[T]
def uF (P:Program):List TypeId→(List Value→Prop)→Prop
 | [],K=>K []
 | T::Ts,K=>LL P T fun v=>uF P Ts fun vs=>K (v::vs)
theorem mV {P:Program}:∀ {Ts:List TypeId} {K:List Value→Prop},uF P Ts K→∃ vs,vs.length=Ts.length∧K vs
 | [],K,h=>⟨[],rfl,h⟩
 | T::Ts,K,h=>by
   obtain ⟨v,h⟩:=tg h;obtain ⟨vs,hl,h⟩:=mV h;exact ⟨v::vs,by simp [hl],h⟩
def Kh (P:Program) (T:TypeId):Bool:=
 match P.underlying T with
 | some (.struct _)=>true
 | some (.array _ _)=>true
 | _=>false
def LM (P:Program) (T:TypeId) (K:Value→Prop):Prop:=
 bif Kh P T then uF P (L5 P 8 T) (fun l=>K (.agg l.toArray)) else LL P T K
theorem th {P:Program} {T:TypeId} {K:Value→Prop} (h:LM P T K):∃ v,K v:=by
 unfold LM at h
 cases hb:Kh P T with
 | true=>rw [hb] at h; obtain ⟨l,_,h⟩:=mV h; exact ⟨_,h⟩
 | false=>rw [hb] at h; exact tg h
def He (P:Program):List TypeId→(List Value→Prop)→Prop
 | [],K=>K []
 | T::Ts,K=>LM P T fun v=>He P Ts fun vs=>K (v::vs)
theorem ky {P:Program}:∀ {Ts:List TypeId} {K:List Value→Prop},He P Ts K→∃ vs,K vs
 | [],K,h=>⟨[],h⟩
 | T::Ts,K,h=>by
   obtain ⟨v,h⟩:=th h;obtain ⟨vs,h⟩:=ky h;exact ⟨v::vs,h⟩
def dec (P:Program) (T:TypeId) (v:Value) (K:Value→Prop):Prop:=
 match P.underlying T with
 | some (.tuple Ts)=>He P Ts.toList fun l=>v=.tuple l.toArray∧K (.tuple l.toArray)
 | _=>LM P T fun u=>v=u∧K u
theorem eP {P:Program} {T:TypeId} {v:Value} {K:Value→Prop} (h:dec P T v K):K v:=by
 unfold dec at h
 split at h
 · obtain ⟨l,h1,h2⟩:=ky h; exact h1▸h2
 · obtain ⟨u,h1,h2⟩:=th h; exact h1▸h2
def aX (P:Program) (s:Sem Value) (h:Heap) (K:Value→Heap→Prop):Prop:=
 ∀ w:World,w.heap=h→∃ v w',s.run P w=.ok v w'∧cV w w'∧K v w'.heap
def fW (P:Program) (s:Sem Unit) (h:Heap) (K:Heap→Prop):Prop:=
 ∀ w:World,w.heap=h→∃ w',s.run P w=.ok () w'∧cV w w'∧K w'.heap
def df (P:Program) (f:FuncId):Bool:=
 match P.funcs[f]? with
 | some fn=>fn.body.isSome && !(fn.name== "runtime.NumGoroutine")
 | none=>false
theorem fd {P:Program} {f:FuncId} (h:df P f=true) (args:Array Value) (w:World):(callFunc f args).run P w=.ok (.enter f args) w:=by
 unfold df at h
 unfold callFunc
 cases hf:P.funcs[f]? with
 | none=>rw [hf] at h; cases h
 | some fn=>
   rw [hf] at h;simp only [aw,Bool.not_eq_true'] at h;simp only [Sem.run_bind,run_program,Result.andThen_ok,hf,h.2]
   cases hb:fn.body with
   | none=>rw [hb] at h; simp at h
   | some c=>simp
def aC (P:Program) (f:FuncId) (args:List Value) (h:Heap) (Q:Value→Heap→Prop):Prop:=
 df P f=true∧∀ w:World,w.heap=h→CallsIn Fence.wide 0 P f args.toArray w (fun e w'=>∃ v,e=.returned v∧Q v w'.heap∧cV w w')
def lW (P:Program) (l:Nat) (args:List Value) (h:Heap) (Q:Value→Heap→Prop):Prop:=
 ∀ w:World,w.heap=h→∃ f tmps assign body,(Instr.yield l args.toArray).run P w=.ok (.round l f tmps assign body) w∧
   RoundIn Fence.wide 0 P l f tmps assign body w (fun e w'=>∃ v,e=.returned v∧Q v w'.heap∧cV w w')
def cB (P:Program) (v:Value) (args:List Value) (h:Heap) (Q:Value→Heap→Prop):Prop:=
 match v with
 | .func (.func f) first cap=>aC P f (first.toList++args++cap.toList) h Q
 | .func (.yield l) first _=>lW P l (first.toList++args) h Q
 | _=>False
theorem aC.mono {P:Program} {f:FuncId} {args:List Value} {h:Heap} {Q Q':Value→Heap→Prop} (H:aC P f args h Q) (hq:∀ v h',Q v h'→Q' v h'):aC P f args h Q':=
 ⟨H.1,fun w hw=>CallsIn.mono (H.2 w hw) fun e w' ⟨v,he,q,s⟩=>⟨v,he,hq _ _ q,s⟩⟩
theorem lW.mono {P:Program} {l:Nat} {args:List Value} {h:Heap} {Q Q':Value→Heap→Prop} (H:lW P l args h Q) (hq:∀ v h',Q v h'→Q' v h'):lW P l args h Q':=
 fun w hw=>let ⟨f,t,a,b,hr,hR⟩:=H w hw; ⟨f,t,a,b,hr,RoundIn.mono hR fun e w' ⟨v,he,q,s⟩=>⟨v,he,hq _ _ q,s⟩⟩
theorem cB.mono {P:Program} {v:Value} {args:List Value} {h:Heap} {Q Q':Value→Heap→Prop} (H:cB P v args h Q) (hq:∀ v h',Q v h'→Q' v h'):cB P v args h Q':=by
 unfold cB at *
 split at H
 · exact H.mono hq
 · exact H.mono hq
 · exact H.elim
def bq (op:BinOp) (k:IntKind) (x y:Int):Int:=
 match op with
 | .and=>k.wrap ((BitVec.ofInt k.bits x &&& BitVec.ofInt k.bits y).toNat)
 | .or=>k.wrap ((BitVec.ofInt k.bits x ||| BitVec.ofInt k.bits y).toNat)
 | .xor=>k.wrap ((BitVec.ofInt k.bits x ^^^ BitVec.ofInt k.bits y).toNat)
 | _=>k.wrap ((BitVec.ofInt k.bits x &&& ~~~BitVec.ofInt k.bits y).toNat)
def fH (k:IntKind) (x y:Int):Int:=k.wrap (x*2^(min y.toNat k.bits))
def lu (k:IntKind) (x y:Int):Int:=x.fdiv (2^(min y.toNat k.bits))
def ls (a b:ByteArray):Bool:=Op.bytesLess a.toList b.toList
def cv (a b:ByteArray):Bool:=a.toList==b.toList
def BZ (op:BinOp) (k:IntKind) (a b:Int) (K:Value→Prop):Prop:=
 match op with
 | .add=>K (.int k (k.wrap (a+b)))
 | .sub=>K (.int k (k.wrap (a - b)))
 | .mul=>K (.int k (k.wrap (a*b)))
 | .quo=>b≠0∧K (.int k (k.wrap (a.tdiv b)))
 | .rem=>b≠0∧K (.int k (a.tmod b))
 | .and=>K (.int k (bq .and k a b))
 | .or=>K (.int k (bq .or k a b))
 | .xor=>K (.int k (bq .xor k a b))
 | .andNot=>K (.int k (bq .andNot k a b))
 | .eql=>K (.bool (a==b))
 | .neq=>K (.bool (a !=b))
 | .lss=>K (.bool (decide (a<b)))
 | .leq=>K (.bool (decide (a≤b)))
 | .gtr=>K (.bool (decide (a>b)))
 | .geq=>K (.bool (decide (a≥b)))
 | _=>False
theorem vY {P:Program} {op:BinOp} {k:IntKind} {a b:Int} {K:Value→Prop} (hs:op≠.shl∧op≠.shr) (h:BZ op k a b K) (T:TypeId) :
  ∃ v,(∀ w,(Go.binOp op T (.int k a) (.int k b)).run P w=.ok v w)∧K v:=by
 unfold BZ at h
 cases op <;> simp only [] at h <;>
  first
  | exact h.elim
  | exact absurd rfl hs.1
  | exact absurd rfl hs.2
  | (refine ⟨_,fun w=>?_,h.2⟩; simp [Go.binOp,Op.intDiv,h.1]; done)
  | (refine ⟨_,fun w=>?_,h⟩; simp [Go.binOp,Op.intArith,Op.intCmp]; done)
  | (refine ⟨_,fun w=>?_,h⟩; simp only [Go.binOp,ne_eq,not_true_eq_false,if_false]; rfl)
def Bn (op:BinOp) (a b:ByteArray) (K:Value→Prop):Prop:=
 match op with
 | .add=>a.size+b.size≤9223372036854775807∧K (.string (a++b))
 | .eql=>K (.bool (cv a b))
 | .neq=>K (.bool (!cv a b))
 | .lss=>K (.bool (ls a b))
 | .leq=>K (.bool (ls a b||cv a b))
 | .gtr=>K (.bool (!(ls a b||cv a b)))
 | .geq=>K (.bool (!ls a b))
 | _=>False
theorem vt {P:Program} {op:BinOp} {a b:ByteArray} {K:Value→Prop} (h:Bn op a b K) (T:TypeId) :
  ∃ v,(∀ w,(Go.binOp op T (.string a) (.string b)).run P w=.ok v w)∧K v:=by
 unfold Bn at h
 cases op <;> simp only [] at h <;>
  first
  | exact h.elim
  | exact ⟨_,fun w=>by simp [Go.binOp,Op.stringOp,cv,ls],h⟩
  | (refine ⟨_,fun w=>?_,h.2⟩
     have h1:¬ (((a.size+b.size:Nat):Int)>IntKind.i64.max):=by
      have:=h.1;simp only [IntKind.max,IntKind.signed,IntKind.bits];omega
     simp only [Go.binOp,Op.stringOp];rw [ak h1]
     rfl)
def sK {α:Type} (a b:Option α):Option Bool:=
 match b with
 | none=>some a.isNone
 | some _=>match a with
   | none=>some false
   | some _=>none
def jr (P:Program):List Field→Nat→List Value→List Value→Option Bool
 | [],_,[],[]=>some true
 | f::fs,i,x::xs,y::ys=>cond (Nat.beq f.offset i&&decide (f.name≠ "_")) (match P.underlying f.type,x,y with
    | some .string,.string a,.string b=>(jr P fs (i+1) xs ys).map fun r=>cv a b&&r
    | some (.int _),.int k a,.int k' b=>cond (decide (k=k')) ((jr P fs (i+1) xs ys).map fun r=>(a==b)&&r) none
    | some .bool,.bool a,.bool b=>(jr P fs (i+1) xs ys).map fun r=>(a==b)&&r
    | _,_,_=>none) none
 | _,_,_,_=>none
theorem od {P:Program} {d:Nat} {as bs:Array Value}:∀ (fs:List Field) (i:Nat) (xs ys:List Value) (b:Bool) (w:World),jr P fs i xs ys=some b→as.toList.drop i=xs→bs.toList.drop i=ys→(Op.eqFields (d+1) as bs fs).run P w=.ok b w
 | [],i,[],[],b,w,h,_,_=>by
   simp only [jr,Option.some.injEq] at h;subst h
   rfl
 | [],i,x::xs,ys,b,w,h,_,_=>by simp [jr] at h
 | [],i,[],y::ys,b,w,h,_,_=>by simp [jr] at h
 | f::fs,i,[],ys,b,w,h,_,_=>by simp [jr] at h
 | f::fs,i,x::xs,[],b,w,h,_,_=>by simp [jr] at h
 | f::fs,i,x::xs,y::ys,b,w,h,ha,hb=>by
   have get:∀ {l:Array Value} {z:Value} {zs:List Value},l.toList.drop i=z::zs→l[i]? = some z∧l.toList.drop (i+1)=zs:=fun {l z zs} e=>by
    constructor
    · rw [← Array.getElem?_toList,show l.toList[i]? = (l.toList.drop i)[0]? by rw [getElem?_drop,Nat.add_zero],e]
      rfl
    · rw [show l.toList.drop (i+1)=(l.toList.drop i).drop 1 by rw [drop_drop],e]
      rfl
   obtain ⟨xa,xt⟩:=get ha;obtain ⟨ya,yt⟩:=get hb;unfold jr at h
   cases hc:(Nat.beq f.offset i&&decide (f.name≠ "_")) with
   | false=>rw [hc] at h; cases h
   | true=>
     rw [hc,ab] at h;simp only [aw,decide_eq_true_eq] at hc;obtain ⟨ho,hn⟩:=hc;have ho:=Nat.eq_of_beq_eq_true ho;have ih:=od (P:=P) (d:=d) (as:=as) (bs:=bs) fs (i+1) xs ys;unfold Op.eqFields;rw [al hn,ho];split at h
     · rename_i a c hu;obtain ⟨r,hr,rfl⟩:=Option.map_eq_some_iff.1 h;have e1:=ih r w hr xt yt;simp only [Sem.run_bind,part,isAgg,run_underlying hu,xa,ya,Sem.run_pure,Result.andThen_ok];simp only [Result.andThen_ok,Bool.false_eq_true,if_false,Sem.run_pure];rw [run_equalIn_string w d f.type a c hu];simp only [Result.andThen_ok,Sem.run_ite];unfold cv
       cases a.toList==c.toList with
       | false=>simp
       | true=>simpa using e1
     · rename_i k0 k a k' c hu;by_cases hk:k=k'
       · subst hk;simp only [decide_true,ab] at h;obtain ⟨r,hr,rfl⟩:=Option.map_eq_some_iff.1 h;have e1:=ih r w hr xt yt;simp only [Sem.run_bind,part,isAgg,run_underlying hu,xa,ya,Sem.run_pure,Result.andThen_ok];simp only [Result.andThen_ok,Bool.false_eq_true,if_false,Sem.run_pure];rw [run_equalIn_int w d f.type k k0 a c hu];simp only [Result.andThen_ok,Sem.run_ite]
         cases a==c with
         | false=>simp
         | true=>simpa using e1
       · simp only [hk,decide_false,aa] at h;cases h
     · rename_i a c hu;obtain ⟨r,hr,rfl⟩:=Option.map_eq_some_iff.1 h;have e1:=ih r w hr xt yt;simp only [Sem.run_bind,part,isAgg,run_underlying hu,xa,ya,Sem.run_pure,Result.andThen_ok];simp only [Result.andThen_ok,Bool.false_eq_true,if_false,Sem.run_pure];rw [run_equalIn_bool' w d f.type a c hu];simp only [Result.andThen_ok,Sem.run_ite]
       cases a==c with
       | false=>simp
       | true=>simpa using e1
     · cases h
def EB (P:Program) (T:TypeId) (x y:Value):Option Bool:=
 match P.underlying T,x,y with
 | some .bool,.bool a,.bool b=>some (a==b)
 | some (.pointer _),.pointer a,.pointer b=>sK a b
 | some (.slice _),.slice a _ _,.slice b _ _=>sK a b
 | some (.map _ _),.map a,.map b=>sK a b
 | some (.struct fs),.agg a,.agg b=>cond (!(P.stoodInHeld T) && !(P.eqGuardType P.depth T)) (jr P fs.toList 0 a.toList b.toList) none
 | _,_,_=>none
theorem EA {P:Program} {T:TypeId} {a b:Array Value} {r:Bool} (h:EB P T (.agg a) (.agg b)=some r):P.eqGuardType P.depth T=false:=by
 unfold EB at h
 split at h
 · rename_i heq _; cases heq
 · rename_i heq _; cases heq
 · rename_i heq _; cases heq
 · rename_i heq _; cases heq
 · cases hc:(!(P.stoodInHeld T) && !(P.eqGuardType P.depth T)) with
   | false=>rw [hc] at h; cases h
   | true=>
     simp only [aw,Bool.not_eq_true'] at hc;exact hc.2
 · cases h
theorem zW {P:Program} {T:TypeId} {x y:Value} {b:Bool} (h:EB P T x y=some b) (w:World):(Op.equal T x y).run P w=.ok b w:=by
 unfold Op.equal
 rw [show Op.maxDepth=9999+1 from rfl]
 unfold Op.equalIn
 unfold EB at h
 split at h
 · rename_i h1; simp only [Option.some.injEq] at h; subst h; simp [run_underlying h1]
 · rename_i a c h1;unfold sK at h
   cases c with
   | none=>simp only [Option.some.injEq] at h; subst h; cases a <;> simp [run_underlying h1]
   | some c=>
     cases a with
     | none=>simp only [Option.some.injEq] at h; subst h; simp [run_underlying h1]
     | some a=>cases h
 · rename_i a _ _ c _ _ h1;unfold sK at h
   cases c with
   | none=>simp only [Option.some.injEq] at h; subst h; cases a <;> simp [run_underlying h1]
   | some c=>
     cases a with
     | none=>simp only [Option.some.injEq] at h; subst h; simp [run_underlying h1]
     | some a=>cases h
 · rename_i a c h1;unfold sK at h
   cases c with
   | none=>simp only [Option.some.injEq] at h; subst h; cases a <;> simp [run_underlying h1]
   | some c=>
     cases a with
     | none=>simp only [Option.some.injEq] at h; subst h; simp [run_underlying h1]
     | some a=>cases h
 · rename_i fs a c h1
   cases hc:(!(P.stoodInHeld T) && !(P.eqGuardType P.depth T)) with
   | false=>rw [hc] at h; cases h
   | true=>
     rw [hc,ab] at h;simp only [aw,Bool.not_eq_true'] at hc;have hf:P.fieldsOf T=fs:=by unfold Program.fieldsOf; rw [h1]
     have:=run_equalIn_agg (P:=P) w 9999 T a c (by rw [hf]; exact h1) hc.1;unfold Op.equalIn at this;rw [this,hf];exact od fs.toList 0 a.toList c.toList b w h rfl rfl
 · cases h
variable {base:List Deferred}
def yz (h:Heap) (r:Nat):Option (TypeId×Nat):=
 match h[r]? with
 | some (.cells c elem _)=>some (elem,c.size)
 | _=>none
def yO (h:Heap) (a:Addr) (n:Nat):Heap:=
 if n=0 then h else
 h.modify a.block fun
  | .cells c elem (lo,hi)=>.cells c elem (if lo==hi then (a.off,a.off+n) else (min lo a.off,max hi (a.off+n)))
  | o=>o
def Jl:Obj→Bool
 | .cells ..=>true
 | _=>false
def pY (P:Program) {α:Type}:Sem α→Heap→(α→Prop)→Prop
 | .pure a,_,K=>K a
 | .load _ a k,h,K=>∃ v,cz h a=some v∧pY P (k v) h K
 | .shape r k,h,K=>pY P (k (yz h r)) h K
 | .frozen a k,h,K=>pY P (k (gW h a)) h K
 | .program k,h,K=>pY P (k P) h K
 | .mark _ k,h,K=>pY P k h K
 | _,_,_=>False
theorem lb {P:Program} {α:Type}:∀ {s:Sem α} {h:Heap} {K:α→Prop},pY P s h K→
  ∃ a,(∀ w:World,w.heap=h→s.run P w=.ok a w)∧K a:=by
 intro s
 induction s with
 | pure a=>exact fun H=>⟨a,fun _ _=>rfl,H⟩
 | load m a k ih=>
   intro h K H;obtain ⟨v,hv,H⟩:=H;obtain ⟨x,hx,H⟩:=ih v H;exact ⟨x,fun w hw=>by simp only [Sem.run,dR,hw,hv]; exact hx w hw,H⟩
 | shape r k ih=>
   intro h K H;obtain ⟨x,hx,H⟩:=ih _ H;exact ⟨x,fun w hw=>by subst hw; exact hx w rfl,H⟩
 | frozen a k ih=>
   intro h K H;obtain ⟨x,hx,H⟩:=ih _ H;exact ⟨x,fun w hw=>by subst hw; exact hx w rfl,H⟩
 | program k ih=>
   intro h K H;obtain ⟨x,hx,H⟩:=ih _ H;exact ⟨x,fun w hw=>hx w hw,H⟩
 | mark m k ih=>
   intro h K H;obtain ⟨x,hx,H⟩:=ih H;exact ⟨x,fun w hw=>hx w hw,H⟩
 | _=>exact fun H=>H.elim
def ov (P:Program) {α:Type}:Sem α→Heap→(α→Heap→Prop)→Prop
 | .pure a,h,K=>K a h
 | .load _ a k,h,K=>∃ v,cz h a=some v∧ov P (k v) h K
 | .store _ a v k,h,K=>cond v.oneCell' ((∃ u,cz h a=some u)∧gW h a=false∧ov P k (By h a v) K) False
 | .new o k,h,K=>ov P (k h.size) (h.push o) K
 | .shape r k,h,K=>ov P (k (yz h r)) h K
 | .freeze a n k,h,K=>ov P k (yO h a n) K
 | .frozen a k,h,K=>ov P (k (gW h a)) h K
 | .getObj r k,h,K=>∃ o,h[r]? = some o∧Jl o=false∧ov P (k o) h K
 | .setObj r o k,h,K=>(∃ o',h[r]? = some o'∧Jl o'=false)∧ov P k (h.setIfInBounds r o) K
 | .choose q k,h,K=>∀ t,ov P (k (cond q.forced 0 (q.cut t))) h K
 | .program k,h,K=>ov P (k P) h K
 | .mark _ k,h,K=>ov P k h K
 | _,_,_=>False
theorem xW {P:Program} {α:Type}:∀ {s:Sem α} {h:Heap} {K:α→Heap→Prop},ov P s h K→∀ w:World,w.heap=h→
  ∃ a w',s.run P w=.ok a w'∧cV w w'∧K a w'.heap:=by
 intro s
 induction s with
 | pure a=>exact fun H w hw=>⟨a,w,rfl,.refl w,hw▸H⟩
 | load m a k ih=>
   intro h K H w hw;obtain ⟨v,hv,H⟩:=H;obtain ⟨x,w',hx,r⟩:=ih v H w hw;exact ⟨x,w',by simp only [Sem.run,dR,hw,hv]; exact hx,r⟩
 | store m a v k ih=>
   intro h K H w hw;simp only [ov] at H
   cases hv:v.oneCell' with
   | false=>rw [hv] at H; exact H.elim
   | true=>
     rw [hv] at H;obtain ⟨⟨u,hu⟩,hf,H⟩:=H;obtain ⟨x,w',hx,s,hK⟩:=ih H (w.setCell a v) (by rw [xn,hw]);have h1:w.cell? a=some u:=by rw [dR,hw]; exact hu
     have h2:w.frozen? a=false:=by rw [gV,hw]; exact hf
     refine ⟨x,w',?_,⟨s.os,s.tape,s.output⟩,hK⟩;cases v <;> simp only [Value.oneCell',Bool.false_eq_true] at hv <;> simp only [Sem.run,h1,h2,Bool.false_eq_true,if_false] <;> exact hx
 | new o k ih=>
   intro h K H w hw;subst hw;obtain ⟨x,w',hx,s,hK⟩:=ih _ H { w with heap:=w.heap.push o } rfl;exact ⟨x,w',hx,⟨s.os,s.tape,s.output⟩,hK⟩
 | shape r k ih=>
   intro h K H w hw;subst hw;exact ih _ H w rfl
 | freeze a n k ih=>
   intro h K H w hw;subst hw;obtain ⟨x,w',hx,s,hK⟩:=ih H (w.freeze a n) (by simp only [World.freeze,yO]; split <;> rfl);have hs:(w.freeze a n).os=w.os∧(w.freeze a n).tape=w.tape∧(w.freeze a n).output=w.output:=by
    simp only [World.freeze]; split <;> exact ⟨rfl,rfl,rfl⟩
   exact ⟨x,w',hx,⟨s.os.trans hs.1,s.tape.trans hs.2.1,s.output.trans hs.2.2⟩,hK⟩
 | frozen a k ih=>
   intro h K H w hw;subst hw;exact ih _ H w rfl
 | getObj r k ih=>
   intro h K H w hw;obtain ⟨o,ho,hc,H⟩:=H;obtain ⟨x,w',hx,rr⟩:=ih o H w hw;refine ⟨x,w',?_,rr⟩;simp only [Sem.run,hw,ho];cases o <;> first | exact hx | (simp [Jl] at hc)
 | setObj r o k ih=>
   intro h K H w hw;obtain ⟨⟨o',ho,hc⟩,H⟩:=H;subst hw;obtain ⟨x,w',hx,s,hK⟩:=ih H { w with heap:=w.heap.setIfInBounds r o } rfl;refine ⟨x,w',?_,⟨s.os,s.tape,s.output⟩,hK⟩;simp only [Sem.run,ho];cases o' <;> first | exact hx | (simp [Jl] at hc)
 | choose q k ih=>
   intro h K H w hw
   cases hq:q.forced with
   | true=>
     have H0:=H 0;rw [hq] at H0;obtain ⟨x,w',hx,rr⟩:=ih _ H0 w hw;exact ⟨x,w',by simp only [Sem.run,hq,if_true]; exact hx,rr⟩
   | false=>
     have H0:=H (w.tape w.drawn q);rw [hq] at H0;obtain ⟨x,w',hx,s,hK⟩:=ih _ H0 { w with drawn:=w.drawn+1 } hw;exact ⟨x,w',by simp only [Sem.run,hq,Bool.false_eq_true,if_false]; exact hx,⟨s.os,s.tape,s.output⟩,hK⟩
 | program k ih=>exact fun H w hw=>ih _ H w hw
 | mark m k ih=>exact fun H w hw=>ih H w hw
 | _=>exact fun H=>H.elim
def Jm (n:Nat) (φ:Fr) (x:Operand):Value:=
 match ev n φ x with
 | some v=>v
 | none=>undef
def kY (n:Nat) (φ:Fr) (xs:List Operand):Bool:=xs.all fun x=>(ev n φ x).isSome
theorem ti {n:Nat} {φ:Fr} {o:Oper} (hs:∀ cs b,o.op≠.select cs b) (h:kY n φ o.op.operands.toList=true) {a:Act} (ha:FA base n φ a) :
  execOp a.eval o=execOp (Jm n φ) o:=
 execOp_congr o hs fun x hx=>by
  have:=List.all_eq_true.1 h x (by simpa using hx);obtain ⟨v,hv⟩:=Option.isSome_iff_exists.1 this;rw [bf ha hv]; simp [Jm,hv]
def aS (p:Option Addr) (K:Addr→Prop):Prop:=
 match p with
 | some a=>K a
 | none=>False
def bt (s:ByteArray) (i:Int):Int:=((s.data.toList[i.toNat]?).getD 0).toNat
def aR (a:Option Addr) (l:Nat) (ix:Int) (sz:Nat) (K:Addr→Prop):Prop:=∃ b,a=some b∧0≤ix∧ix<(l:Int)∧K (b.add (ix.toNat*sz))
def Ac (s:ByteArray) (lo hi:Int) (K:ByteArray→Prop):Prop:=0≤lo∧lo≤hi∧hi≤(s.size:Int)∧K (s.extract lo.toNat hi.toNat)
def jB (a:Option Addr) (l m sz:Nat):Option Addr:=if m=l then a else a.map (·.add (l*sz))
def uP (a:Option Addr) (c sz:Nat) (lo hi mx:Int) (K:Option Addr→Nat→Nat→Prop):Prop:=
 0≤lo∧lo≤hi∧hi≤mx∧mx≤(c:Int)∧K (jB a lo.toNat mx.toNat sz) (hi.toNat - lo.toNat) (mx.toNat - lo.toNat)
def bJ (h:Heap) (a:Option Addr) (l:Nat) (bs:ByteArray):Prop:=
 match a with
 | none=>bs=.empty
 | some a=>bs.size=l∧∀ i,i<l→cz h (a.add i)=some (.int .u8 ((bs.data.toList.getD i 0).toNat:Nat))
def dJ (h:Heap) (m:Option Nat) (es:Array MapEntry):Prop:=
 match m with
 | none=>es=#[]
 | some r=>∃ clock,h[r]? = some (.map es clock)
def nS (P:Program) (T:TypeId):Bool:=
 match P.underlying T with
 | some (.int _)=>true
 | some .string=>true
 | some .bool=>true
 | _=>false
def p9 (P:Program) (T:TypeId):Bool:=
 match P.info? T,P.underlying T with
 | some j,some (.slice _)=>j.size==1
 | some j,some (.pointer _)=>j.size==1
 | some j,some (.int _)=>j.size==1
 | some j,some .string=>j.size==1
 | _,_=>false
theorem uo {P:Program} {T:TypeId} {cs:Array Value} {i:Nat} {u:Value} (h:p9 P T=true) (hu:cs.toList[i]? = some u) (w:World) :
  ((do part T cs (i*(← sizeOf T))):Sem Value).run P w=.ok u w:=by
 have hu2:cs[i]? = some u:=by rw [← Array.getElem?_toList]; exact hu
 unfold p9 at h
 split at h <;> first | (cases h; done) | skip
 all_goals
  first
   | (rename_i j _ hj hT
      have hs:j.size=1:=beq_iff_eq.1 h;simp [part,isAgg,sizeOf,typeInfo,hj,run_underlying hT,hs,hu2]
      done)
   | (rename_i j hj hT
      have hs:j.size=1:=beq_iff_eq.1 h;simp [part,isAgg,sizeOf,typeInfo,hj,run_underlying hT,hs,hu2])
def xF (P:Program) (T:TypeId):TypeDesc:=(P.underlying T).getD .string
def JI (P:Program) (n:Nat) (o:Oper) (φ:Fr) (h:Heap) (K:Value→Prop):Prop:=
 match o.op with
 | .pick c a b=>rd n φ c fun vc=>match vc with
   | .bool t=>cond t (rd n φ a K) (rd n φ b K)
   | _=>False
 | .load T x=>rd n φ x fun v=>match v with
   | .pointer (some a)=>pY P (loadVar T a) h fun v=>dec P T v K
   | _=>False
 | .nilCheck x=>rd n φ x fun v=>match v with
   | .pointer p=>aS p fun a=>K (.pointer (some a))
   | .func (.func f) x y=>K (.func (.func f) x y)
   | .func (.yield f) x y=>K (.func (.yield f) x y)
   | _=>False
 | .binOp op T x y _=>rd n φ x fun vx=>rd n φ y fun vy=>
   match vx,vy with
   | .int k a,.int k' b=>(match op with
     | .shl=>0≤b∧K (.int k (fH k a b))
     | .shr=>0≤b∧K (.int k (lu k a b))
     | op=>cond (decide (k=k')) (BZ op k a b K) False)
   | .string a,.string b=>Bn op a b K
   | vx,vy=>(match op,EB P T vx vy with
     | .eql,some b=>K (.bool b)
     | .neq,some b=>K (.bool (!b))
     | _,_=>False)
 | .convert s d x=>rd n φ x fun v=>match P.underlying s,P.underlying d,v with
   | some (.slice e),some .string,.slice a l _=>(match P.underlying e with
     | some (.int .u8)=>∃ bs:ByteArray,bJ h a l bs∧K (.string bs)
     | _=>False)
   | _,some (.slice _),_=>False
   | _,_,v=>pY P (Go.convert s d v) h K
 | .indexAddr T x i=>rd n φ x fun vx=>rd n φ i fun vi=>match P.underlying T,vx,vi with
   | some (.slice e),.slice a l _,.int _ ix=>(match P.info? e with
     | some j=>aR a l ix j.size fun a=>K (.pointer (some a))
     | none=>False)
   | some (.array m e),.pointer (some b),.int _ ix=>(match P.info? e with
     | some j=>0≤ix∧ix<(m:Int)∧K (.pointer (some (b.add (ix.toNat*j.size))))
     | none=>False)
   | _,_,_=>False
 | .index T x i=>rd n φ x fun vx=>rd n φ i fun vi=>match P.underlying T,vx,vi with
   | some .string,.string s,.int _ ix=>0≤ix∧ix<(s.size:Int)∧K (.int .u8 (bt s ix))
   | some (.array m e),.agg cs,.int _ ix=>cond (p9 P e) (0≤ix∧ix<(m:Int)∧∃ u,cs.toList[ix.toNat]? = some u∧dec P e u K) False
   | _,_,_=>False
 | .slice T x lo hi mx=>rd n φ x fun vx=>zx n φ lo.toList fun vlo=>zx n φ hi.toList fun vhi=>zx n φ mx.toList fun vmx=>
   match P.underlying T,vx with
   | some .string,.string s=>(match vlo,vhi,vmx with
     | [],[],[]=>K (.string (s.extract 0 s.size))
     | [.int _ lo],[],[]=>Ac s lo s.size fun s=>K (.string s)
     | [],[.int _ hi],[]=>Ac s 0 hi fun s=>K (.string s)
     | [.int _ lo],[.int _ hi],[]=>Ac s lo hi fun s=>K (.string s)
     | _,_,_=>False)
   | some (.slice e),.slice a l c=>(match P.info? e with
     | none=>False
     | some j=>(match vlo,vhi,vmx with
       | [],[],[]=>uP a c j.size 0 l c fun a l c=>K (.slice a l c)
       | [.int _ lo],[],[]=>uP a c j.size lo l c fun a l c=>K (.slice a l c)
       | [],[.int _ hi],[]=>uP a c j.size 0 hi c fun a l c=>K (.slice a l c)
       | [.int _ lo],[.int _ hi],[]=>uP a c j.size lo hi c fun a l c=>K (.slice a l c)
       | [],[.int _ hi],[.int _ mx]=>uP a c j.size 0 hi mx fun a l c=>K (.slice a l c)
       | [.int _ lo],[.int _ hi],[.int _ mx]=>uP a c j.size lo hi mx fun a l c=>K (.slice a l c)
       | _,_,_=>False))
   | some (.array m e),.pointer (some b)=>(match P.info? e with
     | none=>False
     | some _=>(match vlo,vhi,vmx with
       | [],[],[]=>K (.slice (some b) m m)
       | _,_,_=>False))
   | _,_=>False
 | .lookup T x i ok=>rd n φ x fun vx=>rd n φ i fun vi=>match P.underlying T,vx with
   | some (.map key elem),.map m=>cond (nS P key)
    (∃ es,dJ h m es∧∃ f,Instr.findNow (xF P key) vi es.toList 0=some f∧
     (match (P.info? elem).bind (·.zero) with
      | some z=>dec P elem ((f.map (·.2)).getD z) fun v=>K (cond ok (.tuple #[v,.bool f.isSome]) v)
      | none=>False)) False
   | _,_=>False
 | .call { callee:=.builtin .len,args,argTypes }=>zx n φ args.toList fun vs=>match argTypes.toList,vs with
   | [T],[.map m]=>(match P.underlying T with
     | some (.map _ _)=>∃ es,dJ h m es∧K (.int .i64 es.size)
     | _=>False)
   | _,_=>cond (kY n φ o.op.operands.toList) (pY P (execOp (Jm n φ) o) h fun nx=>match nx with
     | .value v=>K v
     | _=>False) False
 | _=>cond (kY n φ o.op.operands.toList) (pY P (execOp (Jm n φ) o) h fun nx=>match nx with
   | .value v=>K v
   | _=>False) False
def Gp (P:Program) (o:Op):Bool:=
 match o with
 | .move _=>true
 | .assign _=>true
 | .pick ..=>true
 | .load ..=>true
 | .nilCheck _=>true
 | .binOp ..=>true
 | .unOp ..=>true
 | .convert _ d _=>(match P.underlying d with
   | some (.slice _)=>false
   | _=>true)
 | .fieldAddr ..=>true
 | .field ..=>true
 | .indexAddr ..=>true
 | .index ..=>true
 | .slice ..=>true
 | .extract ..=>true
 | .makeFunc ..=>true
 | .makeInterface ..=>true
 | .lookup ..=>true
 | .build ..=>true
 | .call { callee:=.builtin .len,.. }=>true
 | .call { callee:=.builtin .min,.. }=>true
 | .call { callee:=.builtin .max,.. }=>true
 | .call { callee:=.builtin .cap,.. }=>true
 | _=>false
theorem EH {s:ByteArray} {i:Int} (h0:0≤i) (h1:i<(s.size:Int)):(if 0≤i then s[i.toNat]? else none)=some ((s.data.toList[i.toNat]?).getD 0):=by
 rw [al h0]
 have hlt:i.toNat<s.size:=by omega
 rw [ByteArray.getElem?_lt' s _ hlt]
 have h2:i.toNat<s.data.toList.length:=by simpa using hlt
 simp only [ah h2,Option.getD_some]
 simp [ByteArray.getElem_eq_getElem_data]
theorem ui {P:Program} {h:Heap} {a:Option Addr} {l c:Nat} {bs:ByteArray} (H:bJ h a l bs) (w:World) (hw:w.heap=h) :
  (Conv.bytesToString (.slice a l c)).run P w=.ok (.string bs) w:=by
 cases a with
 | none=>simp only [bJ] at H; subst H; rfl
 | some a=>
   obtain ⟨h1,h2⟩:=H;have hlen:(bs.data.toList.map fun b=>Value.int .u8 (b.toNat:Int)).length=l:=by simpa using h1
   have hload:(loadCells a l).run P w=.ok (bs.data.toList.map fun b=>Value.int .u8 (b.toNat:Int)).toArray w:=by
    have:=run_loadCells_list (P:=P) (w:=w) a (bs.data.toList.map fun b=>Value.int .u8 (b.toNat:Int)) (fun j v hv=>?_)
    · rw [hlen] at this; exact this
    · rw [dR,hw];obtain ⟨hj,hv⟩:=aj.1 hv;subst hv;have hj':j<bs.data.toList.length:=by simpa using hj
      rw [h2 j (by omega)];simp [getD_eq_getElem?_getD,ah hj']
   have:=run_bytesToString (P:=P) w a l c (bs.data.toList.map fun b=>(b.toNat:Int)) (by rw [hload]; simp [Function.comp_def]);rw [this];congr 2;rw [foldl_push_bytes];apply ByteArray.ext;simp [Function.comp_def]
theorem gx {P:Program} {op:BinOp} {T:TypeId} {x y:Operand} {u v:Value} (hu:(∀ k,u≠.agg k)∧u≠.nilIface) (w:World):(eqGuard op T x y u v).run P w=.ok () w:=by
 unfold eqGuard
 cases op <;> first | rfl | skip
 all_goals
  cases u <;> first | rfl | exact absurd rfl hu.2 | exact absurd rfl (hu.1 _)
theorem tp {P:Program} {n:Nat} {o:Oper} {φ:Fr} {h:Heap} {K:Value→Prop} (hs:∀ cs b,o.op≠.select cs b)
  (H:cond (kY n φ o.op.operands.toList) (pY P (execOp (Jm n φ) o) h fun nx=>match nx with
   | .value v=>K v
   | _=>False) False):∃ v,(∀ {base:List Deferred} (a:Act) (w:World),FA base n φ a→w.heap=h→(execOp a.eval o).run P w=.ok (.value v) w)∧K v:=by
 cases hr:kY n φ o.op.operands.toList with
 | false=>rw [hr] at H; exact H.elim
 | true=>
   rw [hr] at H;obtain ⟨x,hx,H⟩:=lb H;cases x <;> simp only [] at H <;> first | exact H.elim | skip
   rename_i v;exact ⟨v,fun a w ha hw=>by rw [ti hs hr ha]; exact hx w hw,H⟩
theorem yP {P:Program} {T:TypeId} {x y:Value} {b:Bool} (h:EB P T x y=some b) (w:World) :
  (Go.binOp .eql T x y).run P w=.ok (.bool b) w∧(Go.binOp .neq T x y).run P w=.ok (.bool (!b)) w:=by
 have h1:=zW h w
 unfold EB at h
 split at h <;> first | (cases h; done) | (constructor <;> simp [Go.binOp,h1])
theorem mn {P:Program} {n:Nat} {o:Oper} {φ:Fr} {h:Heap} {K:Value→Prop} (hq:Gp P o.op=true) (H:JI P n o φ h K) :
  ∃ v,(∀ {base:List Deferred} (a:Act) (w:World),FA base n φ a→w.heap=h→(execOp a.eval o).run P w=.ok (.value v) w)∧K v:=by
 unfold JI at H
 split at H
 · -- pick
   rename_i c a b hop;obtain ⟨vc,hc,H⟩:=br H;cases vc <;> simp only [] at H <;> first | exact H.elim | skip
   rename_i t
   cases t with
   | true=>
     obtain ⟨v,hv,H⟩:=br H;exact ⟨v,fun ac w ha hw=>by simp [execOp,hop,bf ha hc,bf ha hv,asBool],H⟩
   | false=>
     obtain ⟨v,hv,H⟩:=br H;exact ⟨v,fun ac w ha hw=>by simp [execOp,hop,bf ha hc,bf ha hv,asBool],H⟩
 · -- load
   rename_i T x hop;obtain ⟨v,hv,H⟩:=br H;split at H
   · obtain ⟨u,hu,H⟩:=lb H;refine ⟨u,fun ac w ha hw=>?_,eP H⟩;simp only [execOp,hop,Instr.loadAt,Instr.sureAddr,bf ha hv,Sem.run_bind,Sem.run_pure,Result.andThen_ok,hu w hw]
   · exact H.elim
 · -- nilCheck
   rename_i x hop;obtain ⟨v,hv,H⟩:=br H;split at H
   · rename_i p
     cases p with
     | none=>exact H.elim
     | some a=>exact ⟨_,fun ac w ha hw=>by simp [execOp,hop,bf ha hv],H⟩
   · exact ⟨_,fun ac w ha hw=>by simp [execOp,hop,bf ha hv],H⟩
   · exact ⟨_,fun ac w ha hw=>by simp [execOp,hop,bf ha hv],H⟩
   · exact H.elim
 · -- binOp
   rename_i op T x y yT hop;obtain ⟨vx,hx,H1⟩:=br H;clear H;obtain ⟨vy,hy,H⟩:=br H1;clear H1;have key:∀ (v:Value),(∀ w,(Go.binOp op T vx vy).run P w=.ok v w)→(∀ (x y:Operand) (w:World),(eqGuard op T x y vx vy).run P w=.ok () w)→
    (∀ {base:List Deferred} (a:Act) (w:World),FA base n φ a→w.heap=h→(execOp a.eval o).run P w=.ok (.value v) w):=fun v hv hne {_} a w ha _=>by
    simp only [execOp,hop,bf ha hx,bf ha hy,Sem.run_bind,hne _ _ w,Result.andThen_ok,hv w,Sem.run_pure]
   split at H
   · rename_i k a k' b;split at H
     · obtain ⟨h0,H⟩:=H;refine ⟨_,key _ (fun w=>?_) (fun x y w=>gx ⟨fun _=>by simp,by simp⟩ w),H⟩;show (Op.shift .shl k a k' b).run P w=_;unfold Op.shift;rw [ak (by omega)]
       rfl
     · obtain ⟨h0,H⟩:=H;refine ⟨_,key _ (fun w=>?_) (fun x y w=>gx ⟨fun _=>by simp,by simp⟩ w),H⟩;show (Op.shift .shr k a k' b).run P w=_;unfold Op.shift;rw [ak (by omega)]
       rfl
     · rename_i hn1 hn2;by_cases hk:k=k'
       · subst hk;simp only [decide_true,ab] at H;obtain ⟨v,hv,H⟩:=vY (P:=P) ⟨hn1,hn2⟩ H T;exact ⟨v,key v hv (fun x y w=>gx ⟨fun _=>by simp,by simp⟩ w),H⟩
       · simp only [hk,decide_false,aa] at H
   · obtain ⟨v,hv,H⟩:=vt (P:=P) H T;exact ⟨v,key v hv (fun x y w=>gx ⟨fun _=>by simp,by simp⟩ w),H⟩
   · rename_i hni hns;have hne:∀ b,EB P T vx vy=some b→(∀ (x y:Operand) (w:World),(eqGuard op T x y vx vy).run P w=.ok () w):=fun b hb=>by
      have hb0:=hb;unfold EB at hb;split at hb <;> first | (cases hb; done) | exact fun x y w=>run_eqGuard_agg w op T x y _ _ (EA hb0) | exact fun x y w=>gx ⟨fun _=>by simp,by simp⟩ w
     split at H
     · rename_i b hb;exact ⟨_,key _ (fun w=>(yP hb w).1) (hne b hb),H⟩
     · rename_i b hb;exact ⟨_,key _ (fun w=>(yP hb w).2) (hne b hb),H⟩
     · exact H.elim
 · -- convert
   rename_i sT dT x hop;obtain ⟨v,hv,H1⟩:=br H;clear H;split at H1
   · rename_i e a l c hs hd;split at H1
     · rename_i he;obtain ⟨bs,hb,H⟩:=H1;refine ⟨_,fun ac w ha hw=>?_,H⟩;simp only [execOp,hop,bf ha hv,Sem.run_bind,run_convert_bytes_string w sT dT e a l c hs he hd,ui hb w hw,Result.andThen_ok,Sem.run_pure]
     · exact H1.elim
   · exact H1.elim
   · obtain ⟨u,hu,H⟩:=lb H1;refine ⟨u,fun ac w ha hw=>?_,H⟩;simp only [execOp,hop,bf ha hv,Sem.run_bind,hu w hw,Result.andThen_ok,Sem.run_pure]
 · -- indexAddr
   rename_i T x i hop;obtain ⟨vx,hx,H1⟩:=br H;clear H;obtain ⟨vi,hi,H⟩:=br H1;clear H1;split at H
   · rename_i e a l c k ix hT;split at H
     · rename_i j hj;obtain ⟨b,rfl,h0,h1,H⟩:=H;refine ⟨_,fun ac w ha hw=>?_,H⟩;simp only [execOp,hop,bf ha hx,bf ha hi,Sem.run_bind,Instr.indexAt,asIntOf,run_underlying hT,Sem.run_pure,Result.andThen_ok,Bool.and_false];rw [al ⟨h0,h1⟩];simp [sizeOf,typeInfo,hj]
     · exact H.elim
   · rename_i m e b k ix hT;split at H
     · rename_i j hj;obtain ⟨h0,h1,H⟩:=H;refine ⟨_,fun ac w ha hw=>?_,H⟩;simp only [execOp,hop,bf ha hx,bf ha hi,Sem.run_bind,Instr.indexAt,asIntOf,run_underlying hT,Sem.run_pure,Result.andThen_ok,Instr.sureAddr];rw [al ⟨h0,h1⟩];simp [sizeOf,typeInfo,hj]
     · exact H.elim
   · exact H.elim
 · -- index
   rename_i T x i hop;obtain ⟨vx,hx,H1⟩:=br H;clear H;obtain ⟨vi,hi,H⟩:=br H1;clear H1;split at H
   · rename_i s k ix hT;obtain ⟨h0,h1,H⟩:=H;refine ⟨_,fun ac w ha hw=>?_,H⟩;simp only [execOp,hop,bf ha hx,bf ha hi,Sem.run_bind,Instr.index,asIntOf,run_underlying hT,Sem.run_pure,Result.andThen_ok,EH h0 h1]
     rfl
   · rename_i m e cs k ix hT
     cases hc:p9 P e with
     | false=>rw [hc] at H; exact H.elim
     | true=>
       rw [hc] at H;obtain ⟨h0,h1,u,hu,H⟩:=H;refine ⟨_,fun ac w ha hw=>?_,eP H⟩;have hp:=uo hc hu w;simp only [Sem.run_bind] at hp;simp only [execOp,hop,bf ha hx,bf ha hi,Sem.run_bind,Instr.index,asIntOf,run_underlying hT,Sem.run_pure,Result.andThen_ok];rw [al ⟨h0,h1⟩];simp only [Sem.run_bind,hp,Result.andThen_ok]
   · exact H.elim
 · -- slice
   rename_i T x lo hi mx hop;obtain ⟨vx,hx,H1⟩:=br H;clear H;obtain ⟨vlo,hlo,H2⟩:=eo H1;clear H1;obtain ⟨vhi,hhi,H3⟩:=eo H2;clear H2;obtain ⟨vmx,hmx,H⟩:=eo H3;clear H3;have hop':∀ {base:List Deferred} (ac:Act),FA base n φ ac→execOp ac.eval o=(do let v ← Instr.sliceAt T vx vlo.head? vhi.head? vmx.head?; pure (.value v)):=fun ac ha=>by
    have e1:lo.map ac.eval=vlo.head? := by rw [← hlo ac ha]; cases lo <;> rfl
    have e2:hi.map ac.eval=vhi.head? := by rw [← hhi ac ha]; cases hi <;> rfl
    have e3:mx.map ac.eval=vmx.head? := by rw [← hmx ac ha]; cases mx <;> rfl
    simp only [execOp,hop,bf ha hx,e1,e2,e3]
   split at H
   · rename_i s hT;split at H
     · refine ⟨_,fun ac w ha hw=>?_,H⟩;rw [hop' ac ha];simp [Instr.sliceAt,run_underlying hT,Instr.slice,Instr.sliceBounds]
     · rename_i k lo;obtain ⟨h0,h1,h2,H⟩:=H;refine ⟨_,fun ac w ha hw=>?_,H⟩;rw [hop' ac ha];have b1:0≤lo∧lo≤(s.size:Int):=⟨h0,h1⟩
       simp [Instr.sliceAt,run_underlying hT,Instr.slice,Instr.sliceBounds,Instr.sliceBound,asIntOf,b1]
     · rename_i k hi;obtain ⟨h0,h1,h2,H⟩:=H;refine ⟨_,fun ac w ha hw=>?_,H⟩;rw [hop' ac ha];have b1:0≤hi∧hi≤(s.size:Int):=⟨h1,h2⟩
       simp [Instr.sliceAt,run_underlying hT,Instr.slice,Instr.sliceBounds,Instr.sliceBound,asIntOf,b1]
     · rename_i k lo k' hi;obtain ⟨h0,h1,h2,H⟩:=H;refine ⟨_,fun ac w ha hw=>?_,H⟩;rw [hop' ac ha];have b1:0≤hi∧hi≤(s.size:Int):=⟨by omega,h2⟩
       have b2:0≤lo∧lo≤(hi.toNat:Int):=⟨h0,by omega⟩
       have b3:lo≤max hi 0:=by omega
       simp [Instr.sliceAt,run_underlying hT,Instr.slice,Instr.sliceBounds,Instr.sliceBound,asIntOf,b1,b2,b3,h0]
     · exact H.elim
   · rename_i e a l c hT;split at H
     · exact H.elim
     · rename_i j hj;have hsz:∀ w,(sizeOf e).run P w=.ok j.size w:=fun w=>by simp [sizeOf,typeInfo,hj]
       split at H
       · obtain ⟨h0,h1,h2,h3,H⟩:=H;refine ⟨_,fun ac w ha hw=>?_,H⟩;rw [hop' ac ha];simp [Instr.sliceAt,run_underlying hT,Instr.slice,Instr.sliceBounds,hsz,jB]
       · rename_i k lo;obtain ⟨h0,h1,h2,h3,H⟩:=H;refine ⟨_,fun ac w ha hw=>?_,H⟩;rw [hop' ac ha];simp [Instr.sliceAt,run_underlying hT,Instr.slice,Instr.sliceBounds,Instr.sliceBound,asIntOf,hsz,jB,h0,h1]
       · rename_i k hi;obtain ⟨h0,h1,h2,h3,H⟩:=H;refine ⟨_,fun ac w ha hw=>?_,H⟩;rw [hop' ac ha];simp [Instr.sliceAt,run_underlying hT,Instr.slice,Instr.sliceBounds,Instr.sliceBound,asIntOf,hsz,jB,h1,h2]
       · rename_i k lo k' hi;obtain ⟨h0,h1,h2,h3,H⟩:=H;refine ⟨_,fun ac w ha hw=>?_,H⟩;rw [hop' ac ha];have b1:0≤hi:=by omega
         have b3:lo≤max hi 0:=by omega
         simp [Instr.sliceAt,run_underlying hT,Instr.slice,Instr.sliceBounds,Instr.sliceBound,asIntOf,hsz,jB,h0,h2,b1,b3]
       · rename_i k hi k' mx;obtain ⟨h0,h1,h2,h3,H⟩:=H;refine ⟨_,fun ac w ha hw=>?_,H⟩;rw [hop' ac ha];have b1:0≤mx:=by omega
         have b3:hi≤max mx 0:=by omega
         simp [Instr.sliceAt,run_underlying hT,Instr.slice,Instr.sliceBounds,Instr.sliceBound,asIntOf,hsz,jB,h1,h3,b1,b3]
       · rename_i k lo k' hi k'' mx;obtain ⟨h0,h1,h2,h3,H⟩:=H;refine ⟨_,fun ac w ha hw=>?_,H⟩;rw [hop' ac ha];have b1:0≤mx:=by omega
         have b2:0≤hi:=by omega
         have b3:hi≤max mx 0:=by omega
         have b4:lo≤max hi 0:=by omega
         simp [Instr.sliceAt,run_underlying hT,Instr.slice,Instr.sliceBounds,Instr.sliceBound,asIntOf,hsz,jB,h0,h3,b1,b2,b3,b4]
       · exact H.elim
   · rename_i m e b hT;split at H
     · exact H.elim
     · rename_i j hj;have hsz:∀ w,(sizeOf e).run P w=.ok j.size w:=fun w=>by simp [sizeOf,typeInfo,hj]
       split at H
       · refine ⟨_,fun ac w ha hw=>?_,H⟩;rw [hop' ac ha];have hb:(if m=0 then b else b.add (0*j.size))=b:=by
          rw [Nat.zero_mul];split
          · rfl
          · simp [Addr.add]
         simp [Instr.sliceAt,run_underlying hT,Instr.sureAddr,Instr.sliceBounds,hsz,hb];simpa using hb
       · exact H.elim
   · exact H.elim
 · -- lookup
   rename_i T x i ok hop;obtain ⟨vx,hx,H1⟩:=br H;clear H;obtain ⟨vi,hi,H⟩:=br H1;clear H1;split at H
   · rename_i key elem m hT
     cases hp:nS P key with
     | false=>rw [hp] at H; exact H.elim
     | true=>
       rw [hp] at H;obtain ⟨es,hes,f,hf,H⟩:=H;split at H
       · rename_i z hz;obtain ⟨d,hd,hkd⟩:∃ d,P.underlying key=some d∧xF P key=d:=by
          unfold nS at hp
          cases hu:P.underlying key with
          | none=>rw [hu] at hp; cases hp
          | some d=>exact ⟨d,rfl,by simp [xF,hu]⟩
         rw [hkd] at hf;have hck:∀ b w,(Instr.checkKey b 10000 key vi).run P w=.ok () w:=fun b w=>by
          rw [show (10000:Nat)=9999+1 from rfl];unfold Instr.checkKey;unfold nS at hp;rw [hd] at hp;simp only [Sem.run_bind,run_underlying hd,Result.andThen_ok];cases d <;> first | (cases hp; done) | rfl
         have hfk:∀ w,(Instr.findKey key vi es.toList).run P w=.ok f w:=fun w=>by
          unfold Instr.findKey;simp only [Sem.run_bind,run_underlying hd,Result.andThen_ok,hf]
          rfl
         have hzv:∀ w,(zeroValue elem).run P w=.ok z w:=fun w=>by
          cases hin:P.info? elem with
          | none=>rw [hin] at hz; cases hz
          | some inf=>
            rw [hin] at hz;simp only [Option.bind_some] at hz;simp [zeroValue,typeInfo,hin,hz]
         have H:=eP H;refine ⟨_,fun ac w ha hw=>?_,H⟩;have hrun:(Instr.lookup T (.map m) vi ok).run P w=.ok (cond ok (.tuple #[(f.map (·.2)).getD z,.bool f.isSome]) ((f.map (·.2)).getD z)) w:=by
          unfold Instr.lookup
          cases m with
          | none=>
            simp only [dJ] at hes; subst hes;simp only [Sem.run_bind,run_underlying hT,Result.andThen_ok,hck,List.isEmpty_nil,Sem.run_pure];have hfk':=hfk w;simp only [List.toList_toArray] at hfk';rw [hfk']
            cases f with
            | none=>cases ok <;> simp [hzv]
            | some p=>cases ok <;> simp
          | some r=>
            obtain ⟨clock,hr⟩:=hes;subst hw;have hg:(getObj r).run P w=.ok (.map es clock) w:=by simp [getObj,Sem.run,hr]
            simp only [Sem.run_bind,run_underlying hT,Result.andThen_ok,hck,hg]
            cases f with
            | none=>cases ok <;> simp [hzv,hfk,hck]
            | some p=>cases ok <;> simp [hfk,hck]
         simp only [execOp,hop,bf ha hx,bf ha hi,Sem.run_bind,hrun,Result.andThen_ok,Sem.run_pure]
       · exact H.elim
   · exact H.elim
 · -- len
   rename_i args argTypes hop;obtain ⟨vs,hvs,H1⟩:=eo H;clear H;split at H1
   · rename_i T m hat;split at H1
     · rename_i kt et hT;obtain ⟨es,hes,H⟩:=H1;refine ⟨_,fun ac w ha hw=>?_,H⟩;have e1:args.map ac.eval=#[.map m]:=by
        have:=hvs ac ha;apply Array.ext';simpa using this
       have e2:argTypes=#[T]:=Array.ext' (by simpa using hat);subst e2;simp only [execOp,hop,resolve,invoke,builtin,e1,Sem.run_bind,Sem.run_pure,Result.andThen_ok,Builtin.len_]
       cases m with
       | none=>simp only [dJ] at hes; subst hes; simp [run_underlying hT,goInt]
       | some r=>
         obtain ⟨clock,hr⟩:=hes;subst hw;have hg:(getObj r).run P w=.ok (.map es clock) w:=by simp [getObj,Sem.run,hr]
         simp [run_underlying hT,hg,goInt]
     · exact H1.elim
   · exact tp (by intro cs b; rw [hop]; simp) H1
 · refine tp (fun cs b hcs=>?_) H;rw [hcs] at hq;cases hq
variable {base:List Deferred}
def Gk (isS:Bool) (v:Value) (K:Value→Prop):Prop:=
 (v=.tuple #[.bool false]∧K (.tuple #[.bool false]))∨
 cond isS (∃ i c:Int,v=.tuple #[.bool true,.int .i64 i,.int .i32 c]∧K (.tuple #[.bool true,.int .i64 i,.int .i32 c]))
  (∃ k x:Value,v=.tuple #[.bool true,k,x]∧K (.tuple #[.bool true,k,x]))
theorem vQ {isS:Bool} {v:Value} {K:Value→Prop} (h:Gk isS v K):K v:=by
 rcases h with ⟨rfl,h⟩ | h
 · exact h
 · cases isS with
   | true=>obtain ⟨i,c,rfl,h⟩:=h; exact h
   | false=>obtain ⟨k,x,rfl,h⟩:=h; exact h
def LG (P:Program) (n:Nat) (et:List TypeId) (o:Oper) (φ:Fr) (h:Heap) (K:Value→Heap→Prop):Prop:=
 match o.op with
 | .call { callee:=.value f,args,.. }=>rd n φ f fun vf=>zx n φ args.toList fun vs=>cB P vf vs h fun v h'=>dec P o.type v fun v=>K v h'
 | .call { callee:=.builtin .append,args,argTypes }=>zx n φ args.toList fun vs=>aX P (append_ argTypes o.type vs.toArray) h fun v h'=>dec P o.type v fun v=>K v h'
 | .call { callee:=.builtin .copy,args,argTypes }=>zx n φ args.toList fun vs=>aX P (Builtin.copy_ argTypes o.type vs.toArray) h fun v h'=>dec P o.type v fun v=>K v h'
 | .call { callee:=.builtin .delete,args,argTypes }=>zx n φ args.toList fun vs=>aX P (Builtin.delete_ argTypes o.type vs.toArray) h fun v h'=>K v h'
 | .convert s d x=>rd n φ x fun v=>aX P (Go.convert s d v) h fun v h'=>dec P d v fun v=>K v h'
 | .makeSlice T l c=>rd n φ l fun vl=>rd n φ c fun vc=>aX P (Instr.makeSlice T vl vc) h fun v h'=>dec P T v fun v=>K v h'
 | .range T x=>rd n φ x fun v=>aX P (Instr.range T v) h fun v h'=>∃ p:Option Addr,v=.pointer p∧K (.pointer p) h'
 | .next it isS=>rd n φ it fun v=>aX P (Instr.next v isS o.type) h fun v h'=>Gk isS v fun v=>K v h'
 | .entry it=>rd n φ it fun v=>aX P (Instr.entry v) h fun v h'=>He P et fun l=>v=.tuple l.toArray∧K (.tuple l.toArray) h'
 | .mapUpdate T m k x=>rd n φ m fun vm=>rd n φ k fun vk=>rd n φ x fun vx=>fW P (Instr.mapUpdate T vm vk vx) h fun h'=>K undef h'
 | .insert T m k x=>rd n φ m fun vm=>rd n φ k fun vk=>rd n φ x fun vx=>fW P (Instr.mapUpdate T vm vk vx) h fun h'=>K undef h'
 | .mapEntry T m k=>rd n φ m fun vm=>rd n φ k fun vk=>aX P (Instr.mapEntry T vm vk) h fun v h'=>He P et fun l=>v=.tuple l.toArray∧K (.tuple l.toArray) h'
 | .entryStore T m s x=>rd n φ m fun vm=>rd n φ s fun vs=>rd n φ x fun vx=>fW P (Instr.entryStore T vm vs vx) h fun h'=>K undef h'
 | _=>cond (kY n φ o.op.operands.toList) (ov P (execOp (Jm n φ) o) h fun nx h'=>match nx with
   | .value v=>K v h'
   | .skip=>K undef h'
   | _=>False) False
def gT (o:Op):Bool:=
 match o with
 | .select ..=>false
 | .defer _=>false
 | _=>true
def us (P:Program) (n:Nat) (et:List TypeId) (o:Oper) (φ:Fr) (h:Heap) (K:Value→Heap→Prop):Prop:=
 cond (gT o.op) (cond (Gp P o.op) (JI P n o φ h fun v=>K v h) (LG P n et o φ h K)) False
theorem mz {r:Option Nat} {n:Nat} {P:Program} {f:FuncId} {args:Array Value} {w:World} {R:Ending→World→Prop} (h:CallsIn Fence.wide n P f args w R):CallsIn (FW r) n P f args w R:=h
theorem D7 {r:Option Nat} {n:Nat} {P:Program} {l:Nat} {f:FuncId} {tmps:Array Value} {a b:Code} {w:World} {R:Ending→World→Prop} (h:RoundIn Fence.wide n P l f tmps a b w R):RoundIn (FW r) n P l f tmps a b w R:=h
theorem kV {r:Option Nat} {n:Nat}:(FW r).depth.isSome=true→1≤n:=fun h=>by cases h
section
variable {P:Program} {n:Nat} {et:List TypeId} {o:Oper} {φ:Fr} {h:Heap} {a:Act} {w:World} {r:Option Nat} {next:Act→World→Prop} {Q:Exit→Act→World→Prop}
theorem jf (hs:gT o.op=true):Oper.semAt (FW r).round a.eval o=execOp a.eval o:=
 Oper.semAt_eq _ _ _ fun c hc=>by rw [hc] at hs; cases hs
theorem du (hs:gT o.op=true) {v:Value} {w':World} (hr:(execOp a.eval o).run P w=.ok (.value v) w') (hn:next (a.put o.dst v) w'):o.wpIn (FW r) 0 P a w next Q:=
 ⟨fun _ _=>trivial,by rw [jf hs,hr]; exact hn⟩
theorem iS (hs:gT o.op=true) {w':World} (hr:(execOp a.eval o).run P w=.ok .skip w') (hn:next (a.put o.dst undef) w'):o.wpIn (FW r) 0 P a w next Q:=
 ⟨fun _ _=>trivial,by rw [jf hs,hr]; exact hn⟩
theorem BP {P:Program} {vf:Value} {vs:List Value} {h:Heap} {R:Value→Heap→Prop} (H:cB P vf vs h R) (hw:w.heap=h) (hs:gT o.op=true)
  (hr:execOp a.eval o=(do let d ← Deferred.ofValue vf vs.toArray; invoke d.target d.args)) (hn:∀ v w',R v w'.heap→cV w w'→next (a.put o.dst v) w'):o.wpIn (FW r) 0 P a w next Q:=by
 refine ⟨fun _ _=>trivial,?_⟩
 rw [jf hs,hr]
 unfold cB at H
 split at H
 · rename_i f first cap
   have h1:(do let d ← Deferred.ofValue (.func (.func f) first cap) vs.toArray; invoke d.target d.args).run P w=.ok (.enter f (first.toList++vs++cap.toList).toArray) w:=by
    simp only [Deferred.ofValue,Sem.run_bind,Sem.run_pure,Result.andThen_ok,invoke];rw [show (first++vs.toArray++cap)=(first.toList++vs++cap.toList).toArray from Array.ext' (by simp)];exact fd H.1 _ _
   rw [h1];refine ⟨kV,mz (CallsIn.mono (H.2 w hw) fun e w' ⟨v,he,q,s⟩=>?_)⟩;subst he;exact hn v w' q s
 · rename_i l first cap
   obtain ⟨f,tmps,as,body,hy,hR⟩:=H w hw;have h1:(do let d ← Deferred.ofValue (.func (.yield l) first cap) vs.toArray; invoke d.target d.args).run P w=.ok (.round l f tmps as body) w:=by
    simp only [Deferred.ofValue,Sem.run_bind,Sem.run_pure,Result.andThen_ok,invoke];rw [show (first++vs.toArray)=(first.toList++vs).toArray from Array.ext' (by simp)];exact hy
   rw [h1];refine ⟨kV,D7 (RoundIn.mono hR fun e w' ⟨v,he,q,s⟩=>?_)⟩;subst he;exact hn v w' q s
 · exact H.elim
theorem sJ {K:Value→Heap→Prop} (hs:gT o.op=true) (H:LG P n et o φ h K) (ha:FA base n φ a) (hw:w.heap=h)
  (hn:∀ v w',K v w'.heap→cV w w'→next (a.put o.dst v) w'):o.wpIn (FW r) 0 P a w next Q:=by
 have vals:∀ {xs:Array Operand} {vs:List Value},(∀ {base:List Deferred} (a:Act),FA base n φ a→xs.toList.map a.eval=vs)→xs.map a.eval=vs.toArray:=fun hvs=>by
  rw [← hvs a ha]; apply Array.ext'; simp
 unfold LG at H
 split at H
 · rename_i f args _ hop;obtain ⟨vf,hf,H1⟩:=br H;obtain ⟨vs,hvs,H2⟩:=eo H1;refine BP H2 hw hs ?_ (fun v w' q s=>hn v w' (eP q) s);simp only [execOp,hop,resolve,bf ha hf,vals hvs]
 · rename_i args argTypes hop;obtain ⟨vs,hvs,H1⟩:=eo H;obtain ⟨v,w',hr,s,q⟩:=H1 w hw;refine du hs (v:=v) (w':=w') ?_ (hn v w' (eP q) s);simp only [execOp,hop,resolve,invoke,builtin,vals hvs,Sem.run_bind,Sem.run_pure,Result.andThen_ok,hr]
 · rename_i args argTypes hop;obtain ⟨vs,hvs,H1⟩:=eo H;obtain ⟨v,w',hr,s,q⟩:=H1 w hw;refine du hs (v:=v) (w':=w') ?_ (hn v w' (eP q) s);simp only [execOp,hop,resolve,invoke,builtin,vals hvs,Sem.run_bind,Sem.run_pure,Result.andThen_ok,hr]
 · rename_i args argTypes hop;obtain ⟨vs,hvs,H1⟩:=eo H;obtain ⟨v,w',hr,s,q⟩:=H1 w hw;refine du hs (v:=v) (w':=w') ?_ (hn v w' q s);simp only [execOp,hop,resolve,invoke,builtin,vals hvs,Sem.run_bind,Sem.run_pure,Result.andThen_ok,hr]
 · rename_i sT dT x hop;obtain ⟨vx,hx,H1⟩:=br H;obtain ⟨v,w',hr,s,q⟩:=H1 w hw;refine du hs (v:=v) (w':=w') ?_ (hn v w' (eP q) s);simp only [execOp,hop,bf ha hx,Sem.run_bind,Sem.run_pure,Result.andThen_ok,hr]
 · rename_i T l c hop;obtain ⟨vl,hl,H1⟩:=br H;obtain ⟨vc,hc,H2⟩:=br H1;obtain ⟨v,w',hr,s,q⟩:=H2 w hw;refine du hs (v:=v) (w':=w') ?_ (hn v w' (eP q) s);simp only [execOp,hop,bf ha hl,bf ha hc,Sem.run_bind,Sem.run_pure,Result.andThen_ok,hr]
 · rename_i T x hop;obtain ⟨vx,hx,H1⟩:=br H;obtain ⟨v,w',hr,s,p,rfl,q⟩:=H1 w hw;refine du hs (w':=w') ?_ (hn _ w' q s);simp only [execOp,hop,bf ha hx,Sem.run_bind,Sem.run_pure,Result.andThen_ok,hr]
 · rename_i it isS hop;obtain ⟨vx,hx,H1⟩:=br H;obtain ⟨v,w',hr,s,q⟩:=H1 w hw;refine du hs (w':=w') ?_ (hn _ w' (vQ q) s);simp only [execOp,hop,bf ha hx,Sem.run_bind,Sem.run_pure,Result.andThen_ok,hr]
 · rename_i it hop;obtain ⟨vx,hx,H1⟩:=br H;obtain ⟨v,w',hr,s,q⟩:=H1 w hw;obtain ⟨l,e,q⟩:=ky q;refine du hs (w':=w') ?_ (hn v w' (e▸q) s);simp only [execOp,hop,bf ha hx,Sem.run_bind,Sem.run_pure,Result.andThen_ok,hr]
 · rename_i T m k x hop;obtain ⟨vm,hm,H1⟩:=br H;obtain ⟨vk,hk,H2⟩:=br H1;obtain ⟨vx,hx,H3⟩:=br H2;obtain ⟨w',hr,s,q⟩:=H3 w hw;refine iS hs (w':=w') ?_ (hn _ w' q s);simp only [execOp,hop,bf ha hm,bf ha hk,bf ha hx,Sem.run_bind,Sem.run_pure,Result.andThen_ok,hr]
 · rename_i T m k x hop;obtain ⟨vm,hm,H1⟩:=br H;obtain ⟨vk,hk,H2⟩:=br H1;obtain ⟨vx,hx,H3⟩:=br H2;obtain ⟨w',hr,s,q⟩:=H3 w hw;refine iS hs (w':=w') ?_ (hn _ w' q s);simp only [execOp,hop,bf ha hm,bf ha hk,bf ha hx,Sem.run_bind,Sem.run_pure,Result.andThen_ok,hr]
 · rename_i T m k hop;obtain ⟨vm,hm,H1⟩:=br H;obtain ⟨vk,hk,H2⟩:=br H1;obtain ⟨v,w',hr,s,q⟩:=H2 w hw;obtain ⟨l,e,q⟩:=ky q;refine du hs (w':=w') ?_ (hn v w' (e▸q) s);simp only [execOp,hop,bf ha hm,bf ha hk,Sem.run_bind,Sem.run_pure,Result.andThen_ok,hr]
 · rename_i T m st x hop;obtain ⟨vm,hm,H1⟩:=br H;obtain ⟨vk,hk,H2⟩:=br H1;obtain ⟨vx,hx,H3⟩:=br H2;obtain ⟨w',hr,s,q⟩:=H3 w hw;refine iS hs (w':=w') ?_ (hn _ w' q s);simp only [execOp,hop,bf ha hm,bf ha hk,bf ha hx,Sem.run_bind,Sem.run_pure,Result.andThen_ok,hr]
 · cases hr:kY n φ o.op.operands.toList with
   | false=>rw [hr] at H; exact H.elim
   | true=>
     rw [hr] at H;obtain ⟨x,w',hx,s,H⟩:=xW H w hw;have hsel:∀ cs b,o.op≠.select cs b:=fun cs b hc=>by rw [hc] at hs; cases hs
     rw [← ti hsel hr ha] at hx;cases x <;> simp only [] at H <;> first | exact H.elim | skip
     · exact du hs hx (hn _ w' H s)
     · exact iS hs hx (hn _ w' H s)
theorem kQ {K:Value→Heap→Prop} (H:us P n et o φ h K) (ha:FA base n φ a) (hw:w.heap=h)
  (hn:∀ v w',K v w'.heap→cV w w'→next (a.put o.dst v) w'):o.wpIn (FW r) 0 P a w next Q:=by
 unfold us at H
 cases hs:gT o.op with
 | false=>rw [hs] at H; exact H.elim
 | true=>
   rw [hs] at H
   cases hq:Gp P o.op with
   | true=>
     rw [hq] at H;obtain ⟨v,hv,H⟩:=mn hq H;exact du hs (hv a w ha hw) (hn v w (hw▸H) (.refl w))
   | false=>
     rw [hq] at H;exact sJ hs H ha hw hn
end
def pN (ops:Array Oper) (j:Nat):Option Tmp:=(ops[j]?).bind (·.dst)
def li (P:Program) (n:Nat) (et:List TypeId) (ops:Array Oper):List Oper→Fr→Heap→(Fr→Heap→Prop)→Prop
 | [],φ,h,K=>K φ h
 | o::rest,φ,h,K=>
   match o.guard with
   | none=>us P n et o φ h fun v h'=>li P n et ops rest (φ.put o.dst v) h' K
   | some (j,want)=>
     match pN ops j with
     | none=>False
     | some d=>
       match ev n φ (.tmp d) with
       | some (.bool t)=>cond t
         (cond want (us P n et o (φ.put (some d) (.bool true)) h fun v h'=>li P n et ops rest ((φ.put (some d) (.bool true)).put o.dst v) h' K)
          (li P n et ops rest ((φ.put (some d) (.bool true)).put o.dst undef) h K))
         (cond want (li P n et ops rest ((φ.put (some d) (.bool false)).put o.dst undef) h K)
          (us P n et o (φ.put (some d) (.bool false)) h fun v h'=>li P n et ops rest ((φ.put (some d) (.bool false)).put o.dst v) h' K))
       | some (.tuple _)=>li P n et ops rest (φ.put o.dst undef) h K
       | _=>False
theorem FA.again {n:Nat} {φ:Fr} {a:Act} (h:FA base n φ a) {d:Tmp} {v:Value} (hv:ev n φ (.tmp d)=some v):FA base n (φ.put (some d) v) a:=by
 refine ⟨h.defers,h.size,fun t u hu ht=>?_⟩
 simp only [Fr.put] at hu
 cases hb:Nat.beq t d with
 | false=>rw [hb] at hu; exact h.slots t u hu ht
 | true=>
   rw [hb] at hu;obtain rfl:=Nat.eq_of_beq_eq_true hb;simp only [ab,Option.some.injEq] at hu;subst hu;simp only [ev] at hv
   cases hb:Nat.blt t n with
   | false=>rw [hb] at hv; cases hv
   | true=>rw [hb] at hv; exact h.slots t v hv ht
theorem iN {n:Nat} {φ:Fr} {a:Act} (h:FA base n φ a) {d:Tmp} {v:Value} (hv:ev n φ (.tmp d)=some v):a.tmps[d]? = some v:=by
 simp only [ev] at hv
 cases hb:Nat.blt d n with
 | false=>rw [hb] at hv; cases hv
 | true=>rw [hb] at hv; exact h.slots d v hv (by have:=Nat.le_of_ble_eq_true hb; omega)
theorem eL {ops:Array Oper} {o:Oper} {tmps:Array Value} {j:Nat} {want:Bool} {d:Tmp} (hg:o.guard=some (j,want)) (hd:pN ops j=some d) {v:Value} (hv:tmps[d]? = some v) :
  Region.wanted o (yielded ops tmps)=(match v with
   | .bool b=>b==want
   | _=>false):=by
 unfold pN at hd
 simp only [Region.wanted,hg,yielded,hd,Option.bind_some,hv]
 cases v <;> simp
def aO (m t:Nat):Bool:=Nat.beq (Nat.land (Nat.shiftRight m t) 1) 1
def cq (m:Nat) (a a':Act):Prop:=∀ t,aO m t=false→a'.tmps[t]? = a.tmps[t]?
theorem cq.refl (m:Nat) (a:Act):cq m a a:=fun _ _=>rfl
theorem cq.trans {m:Nat} {a b c:Act} (h:cq m a b) (k:cq m b c):cq m a c:=fun t ht=>(k t ht).trans (h t ht)
theorem cq.put {m:Nat} {a0 a:Act} (h:cq m a0 a) {d:Option Tmp} (hd:∀ x,d=some x→aO m x=true) (v:Value):cq m a0 (a.put d v):=by
 cases d with
 | none=>exact h
 | some d=>
   refine h.trans fun t ht=>?_;have:d≠t:=fun e=>by subst e; rw [hd d rfl] at ht; cases ht
   simp [Act.put,Array.getElem?_setIfInBounds_ne this]
theorem eH (m t:Nat):aO m t=m.testBit t:=by
 have h1:Nat.land (Nat.shiftRight m t) 1=(m >>> t)%2:=Nat.and_one_is_mod _
 have h2:m.testBit t=decide ((m >>> t)%2=1):=by
  rw [Nat.testBit_eq_decide_div_mod_eq,Nat.shiftRight_eq_div_pow]
 unfold aO
 rw [h1,h2]
 rcases Nat.mod_two_eq_zero_or_one (m >>> t) with h | h <;> rw [h] <;> rfl
theorem gl (a b t:Nat):aO (Nat.lor a b) t=(aO a t||aO b t):=by
 rw [eH,eH,eH]
 exact Nat.testBit_or a b t
theorem Ab (d:Nat):aO (2^d) d=true:=by
 rw [eH]; simp
theorem cq.mono {m m':Nat} {a a':Act} (h:cq m a a') (hm:∀ t,aO m t=true→aO m' t=true):cq m' a a':=fun t ht=>h t (by
 cases hb:aO m t with
 | false=>rfl
 | true=>rw [hm t hb] at ht; cases ht)
theorem cq.left {m m':Nat} {a a':Act} (h:cq m a a'):cq (Nat.lor m m') a a':=h.mono fun t ht=>by rw [gl,ht]; rfl
theorem cq.right {m m':Nat} {a a':Act} (h:cq m' a a'):cq (Nat.lor m m') a a':=h.mono fun t ht=>by rw [gl,ht]; simp
def cy (ops:List Oper):Nat:=ops.foldr (fun o m=>match o.dst with
 | some d=>Nat.lor m (2^d)
 | none=>m) 0
theorem gN:∀ {ops:List Oper} {o:Oper} {d:Tmp},o∈ops→o.dst=some d→aO (cy ops) d=true:=by
 intro ops
 induction ops with
 | nil=>intro o d h; cases h
 | cons x xs ih=>
   intro o d ho hd;simp only [cy,List.foldr_cons]
   rcases ay.1 ho with rfl | h
   · rw [hd]; simp only []; rw [gl,Ab]; simp
   · have:=ih h hd
     cases hx:x.dst with
     | none=>exact this
     | some e=>simp only []; rw [gl]; unfold cy at this; rw [this]; rfl
theorem Fr.put_m (φ:Fr) (d:Option Tmp) (v:Value):(φ.put d v).m=φ.m:=by cases d <;> rfl
theorem vM {P:Program} {n:Nat} {et:List TypeId} {ops:Array Oper} {r:Option Nat} {Q:Exit→Act→World→Prop} {K:Fr→Heap→Prop} {w0:World}
  {m:Nat} {a0:Act} {m0:List Nat} (hK:∀ φ a w,K φ w.heap→FA base n φ a→cV w0 w→cq m a0 a→φ.m=m0→Q .normal a w) :
  ∀ (l:List Oper) (φ:Fr) (h:Heap) (a:Act) (w:World),(∀ o∈l,∀ d,o.dst=some d→aO m d=true)→li P n et ops l φ h K→FA base n φ a→w.heap=h→cV w0 w→cq m a0 a→φ.m=m0→wpListIn (FW r) 0 P ops Q l a w:=by
 intro l
 induction l with
 | nil=>intro φ h a w _ H ha hw hs hag hm0; subst hw; exact hK φ a w H ha hs hag hm0
 | cons o rest ih=>
   intro φ h a w hm H ha hw hs hag hm0;have hmo:=hm o (by simp);have hmr:∀ o∈rest,∀ d,o.dst=some d→aO m d=true:=fun o ho=>hm o (by simp [ho]);have run:∀ φ',φ'.m=m0→FA base n φ' a→(us P n et o φ' h fun v h'=>li P n et ops rest (φ'.put o.dst v) h' K)→o.wpIn (FW r) 0 P a w (wpListIn (FW r) 0 P ops Q rest) Q:=fun φ' hm' ha' H'=>
    kQ H' ha' hw fun v w' q s=>ih _ _ _ _ hmr q (ha'.put _ _) rfl (hs.trans s) (hag.put hmo _) ((Fr.put_m _ _ _).trans hm')
   have pass:∀ φ',φ'.m=m0→FA base n φ' a→(li P n et ops rest (φ'.put o.dst undef) h K)→wpListIn (FW r) 0 P ops Q rest (a.put o.dst undef) w:=fun φ' hm' ha' H'=>
    ih _ _ _ _ hmr H' (ha'.put _ _) hw hs (hag.put hmo _) ((Fr.put_m _ _ _).trans hm')
   unfold li at H;unfold wpListIn;split at H
   · rename_i hg;rw [al (by simp [Region.wanted,hg])];exact run φ hm0 ha H
   · rename_i j want hg;split at H
     · exact H.elim
     · rename_i d hd;split at H
       · rename_i t ht;have hw1:=eL hg hd (iN ha ht);simp only [] at hw1;rw [hw1];have ha':=ha.again ht;cases t <;> cases want <;> simp only [ab,aa] at H
         · exact al rfl▸run _ ((Fr.put_m _ _ _).trans hm0) ha' H
         · rw [ak (by simp)]; exact ⟨fun _ _=>trivial,pass _ ((Fr.put_m _ _ _).trans hm0) ha' H⟩
         · rw [ak (by simp)]; exact ⟨fun _ _=>trivial,pass _ ((Fr.put_m _ _ _).trans hm0) ha' H⟩
         · exact al rfl▸run _ ((Fr.put_m _ _ _).trans hm0) ha' H
       · rename_i vs ht;have hw1:=eL hg hd (iN ha ht);simp only [] at hw1;rw [hw1,ak (by simp)];exact ⟨fun _ _=>trivial,pass φ hm0 ha H⟩
       · exact H.elim
theorem um {P:Program} {n:Nat} {et:List TypeId} {ops:Array Oper} {id:Nat} {r:Option Nat} {Q:Exit→Act→World→Prop} {K:Fr→Heap→Prop} {φ:Fr} {h:Heap} {a:Act} {w:World}
  (H:li P n et ops ops.toList φ h K) (ha:FA base n φ a) (hw:w.heap=h) (hK:∀ φ' a' w',K φ' w'.heap→FA base n φ' a'→cV w w'→cq (cy ops.toList) a a'→φ'.m=φ.m→Q .normal a' w'):(Code.region id ops false).wpIn (FW r) 0 P Q a w:=
 wpIn_region_list (vM (w0:=w) (a0:=a) hK ops.toList φ h a w (fun o ho d hd=>gN ho hd) H ha hw (.refl w) (.refl _ a) rfl)
variable {base:List Deferred}
def pW (P:Program) (n:Nat) (o:Oper) (φ:Fr) (h:Heap) (K:Value→Prop):Prop:=
 match o.op with
 | .call { callee:=.value f,args,.. }=>rd n φ f fun vf=>zx n φ args.toList fun vs=>∃ v0,cB P vf vs h (fun v h'=>v=v0∧h'=h)∧dec P o.type v0 K
 | _=>cond (Gp P o.op) (JI P n o φ h K) False
def ia (P:Program) (n:Nat) (ops:Array Oper):List Oper→Fr→Heap→(Fr→Prop)→Prop
 | [],φ,h,K=>K φ
 | o::rest,φ,h,K=>
   match o.guard with
   | none=>pW P n o φ h fun v=>ia P n ops rest (φ.put o.dst v) h K
   | some (j,want)=>
     match pN ops j with
     | none=>False
     | some d=>
       match ev n φ (.tmp d) with
       | some (.bool t)=>cond t
         (cond want (pW P n o (φ.put (some d) (.bool true)) h fun v=>ia P n ops rest ((φ.put (some d) (.bool true)).put o.dst v) h K)
          (ia P n ops rest ((φ.put (some d) (.bool true)).put o.dst undef) h K))
         (cond want (ia P n ops rest ((φ.put (some d) (.bool false)).put o.dst undef) h K)
          (pW P n o (φ.put (some d) (.bool false)) h fun v=>ia P n ops rest ((φ.put (some d) (.bool false)).put o.dst v) h K))
       | some (.tuple _)=>ia P n ops rest (φ.put o.dst undef) h K
       | _=>False
def CC (w0:World) (h:Heap) (w:World):Prop:=w.heap=h∧cV w0 w
theorem rW {P:Program} {o:Oper} {a:Act} {w0:World} {h:Heap} {next:Act→Prop} {v:Value}
  (hr:∀ w,w.heap=h→(execOp a.eval o).run P w=.ok (.value v) w) (hn:next (a.put o.dst v)):o.quietIn (FW none) 0 P a (CC w0 h) next:=
 ⟨v,fun w hw=>by unfold Oper.quietAtIn; rw [hr w hw.1]; exact ⟨rfl,rfl⟩,hn⟩
theorem nQ {P:Program} {o:Oper} {a:Act} {w0:World} {h:Heap} {next:Act→Prop} {vf v0:Value} {vs:List Value}
  (H:cB P vf vs h (fun v h'=>v=v0∧h'=h)) (hr:execOp a.eval o=(do let d ← Deferred.ofValue vf vs.toArray; invoke d.target d.args))
  (hn:next (a.put o.dst v0)) (hf:∀ l x y,vf≠.func (.yield l) x y):o.quietIn (FW none) 0 P a (CC w0 h) next:=by
 refine ⟨v0,fun w hw=>?_,hn⟩
 unfold Oper.quietAtIn
 rw [hr]
 unfold cB at H
 split at H
 · rename_i f first cap
   have h1:(do let d ← Deferred.ofValue (.func (.func f) first cap) vs.toArray; invoke d.target d.args).run P w=.ok (.enter f (first.toList++vs++cap.toList).toArray) w:=by
    simp only [Deferred.ofValue,Sem.run_bind,Sem.run_pure,Result.andThen_ok,invoke];rw [show (first++vs.toArray++cap)=(first.toList++vs++cap.toList).toArray from Array.ext' (by simp)];exact fd H.1 _ _
   rw [h1];refine ⟨rfl,kV,mz (CallsIn.mono (H.2 w hw.1) fun e w' ⟨v,he,q,s⟩=>?_)⟩;exact ⟨by rw [he,q.1],q.2,hw.2.trans s⟩
 · exact absurd rfl (hf _ _ _)
 · exact H.elim
def yG (v:Value):Bool:=
 match v with
 | .func (.yield _) _ _=>false
 | _=>true
theorem xw {P:Program} {n:Nat} {o:Oper} {φ:Fr} {h:Heap} {a:Act} {w0:World} {K:Value→Prop} {next:Act→Prop}
  (H:pW P n o φ h K) (ha:FA base n φ a) (hs:gT o.op=true) (hny:∀ f args ts,o.op=.call { callee:=.value f,args:=args,argTypes:=ts }→∀ v,ev n φ f=some v→yG v=true)
  (hn:∀ v,K v→next (a.put o.dst v)):o.quietIn (FW none) 0 P a (CC w0 h) next:=by
 unfold pW at H
 split at H
 · rename_i f args ts hop;obtain ⟨vf,hf,H1⟩:=br H;obtain ⟨vs,hvs,v0,hc,hd⟩:=eo H1;refine nQ hc ?_ (hn v0 (eP hd)) (fun l x y e=>?_)
   · have e1:args.map a.eval=vs.toArray:=by rw [← hvs a ha]; apply Array.ext'; simp
     simp only [execOp,hop,resolve,bf ha hf,e1]
   · have:=hny _ _ _ hop vf hf;rw [e] at this; cases this
 · cases hq:Gp P o.op with
   | false=>rw [hq] at H; exact H.elim
   | true=>
     rw [hq] at H;obtain ⟨v,hv,H⟩:=mn hq H;exact rW (fun w hw=>hv a w ha hw) (hn v H)
def cH (o:Op):Bool:=
 match o with
 | .call { callee:=.value (.func _),.. }=>true
 | .call { callee:=.value _,.. }=>false
 | .select ..=>false
 | .defer _=>false
 | _=>true
theorem iM {o:Op} (h:cH o=true):gT o=true:=by
 cases o <;> first | rfl | cases h
theorem kT {n:Nat} {φ:Fr} {o:Oper} (h:cH o.op=true) (f:Operand) (args:Array Operand) (ts:Array TypeId) (hop:o.op=.call { callee:=.value f,args:=args,argTypes:=ts }) (v:Value) (hv:ev n φ f=some v):yG v=true:=by
 rw [hop] at h
 cases f <;> simp only [cH,Bool.false_eq_true] at h
 simp only [ev,Option.some.injEq] at hv
 subst hv
 rfl
theorem un {P:Program} {n:Nat} {ops:Array Oper} {h:Heap} {w0:World} {Q':Act→Prop} {K:Fr→Prop} {m:Nat} {a0:Act} {m0:List Nat} (hK:∀ φ a,K φ→FA base n φ a→cq m a0 a→φ.m=m0→Q' a) :
  ∀ (l:List Oper) (φ:Fr) (a:Act),(∀ o∈l,∀ d,o.dst=some d→aO m d=true)→(∀ o∈l,cH o.op=true)→ia P n ops l φ h K→FA base n φ a→cq m a0 a→φ.m=m0→wpQuietIn (FW none) 0 P ops (CC w0 h) Q' l a:=by
 intro l
 induction l with
 | nil=>intro φ a _ _ H ha hag hm0; exact hK φ a H ha hag hm0
 | cons o rest ih=>
   intro φ a hm hcs H ha hag hm0;have hmo:=hm o (by simp);have hmr:∀ o∈rest,∀ d,o.dst=some d→aO m d=true:=fun o ho=>hm o (by simp [ho]);have hc:=hcs o (by simp);have hcs':∀ o∈rest,cH o.op=true:=fun o ho=>hcs o (by simp [ho]);have run:∀ φ',φ'.m=m0→FA base n φ' a→(pW P n o φ' h fun v=>ia P n ops rest (φ'.put o.dst v) h K)→o.quietIn (FW none) 0 P a (CC w0 h) (wpQuietIn (FW none) 0 P ops (CC w0 h) Q' rest):=fun φ' hm' ha' H'=>
    xw H' ha' (iM hc) (kT hc) fun v q=>ih _ _ hmr hcs' q (ha'.put _ _) (hag.put hmo _) ((Fr.put_m _ _ _).trans hm')
   have pass:∀ φ',φ'.m=m0→FA base n φ' a→(ia P n ops rest (φ'.put o.dst undef) h K)→wpQuietIn (FW none) 0 P ops (CC w0 h) Q' rest (a.put o.dst undef):=fun φ' hm' ha' H'=>
    ih _ _ hmr hcs' H' (ha'.put _ _) (hag.put hmo _) ((Fr.put_m _ _ _).trans hm')
   unfold ia at H;unfold wpQuietIn;refine ⟨fun _ _ _ _=>trivial,?_⟩;split at H
   · rename_i hg;rw [al (by simp [Region.wanted,hg])];exact run φ hm0 ha H
   · rename_i j want hg;split at H
     · exact H.elim
     · rename_i d hd;split at H
       · rename_i t ht;have hw1:=eL hg hd (iN ha ht);simp only [] at hw1;rw [hw1];have ha':=ha.again ht;cases t <;> cases want <;> simp only [ab,aa] at H
         · exact al rfl▸run _ ((Fr.put_m _ _ _).trans hm0) ha' H
         · rw [ak (by simp)]; exact pass _ ((Fr.put_m _ _ _).trans hm0) ha' H
         · rw [ak (by simp)]; exact pass _ ((Fr.put_m _ _ _).trans hm0) ha' H
         · exact al rfl▸run _ ((Fr.put_m _ _ _).trans hm0) ha' H
       · rename_i vs ht;have hw1:=eL hg hd (iN ha ht);simp only [] at hw1;rw [hw1,ak (by simp)];exact pass φ hm0 ha H
       · exact H.elim
theorem jU {P:Program} {ops:Array Oper} {Q:Exit→Act→World→Prop} {r:Option Nat} (hs:∀ (i:Nat) (o:Oper),ops[i]? = some o→gT o.op=true) :
  ∀ (l:List Nat) (a:Act) (w:World),wpOpsIn (FW none) 0 P ops Q l a w→wpOpsIn (FW r) 0 P ops Q l a w:=by
 intro l
 induction l with
 | nil=>exact fun a w h=>h
 | cons i rest ih=>
   intro a w h;simp only [wpOpsIn] at h ⊢
   cases ho:ops[i]? with
   | none=>rw [ho] at h; exact ih a w h
   | some o=>
     rw [ho] at h;simp only [] at h ⊢;split
     · rename_i hw;rw [al hw] at h;have h2:=Oper.wpIn_mono (fun a w=>ih a w) h;refine ⟨fun _ _=>trivial,?_⟩;have h3:=h2.2;rw [jf (r:=none) (hs i o ho)] at h3;rw [jf (hs i o ho)];exact h3
     · rename_i hw;rw [ak hw] at h;exact ⟨fun _ _=>trivial,ih _ _ h.2⟩
theorem rn {P:Program} {n:Nat} {ops:Array Oper} {id:Nat} {r:Option Nat} {Q:Exit→Act→World→Prop} {K:Fr→Prop} {φ:Fr} {h:Heap} {a:Act} {w:World}
  (hm:P.follows .mixedOrders=true) (hB:Region.lexB .any ops=true) (hc:ops.all (fun o=>cH o.op)=true)
  (H:ia P n ops ops.toList φ h K) (ha:FA base n φ a) (hw:w.heap=h) (hK:∀ φ' a' w',K φ'→FA base n φ' a'→w'.heap=h→cV w w'→cq (cy ops.toList) a a'→φ'.m=φ.m→Q .normal a' w') :
  (Code.region id ops true).wpIn (FW r) 0 P Q a w:=by
 have hall:∀ o∈ops.toList,cH o.op=true:=fun o ho=>Array.all_eq_true'.1 hc o (by simpa using ho)
 refine wpIn_region_draw fun t=>jU (fun i o ho=>iM (hall o (by simpa using Array.mem_of_getElem? ho))) _ _ _ ?_
 simp only [Region.schedule,hm,Bool.true_or,if_true]
 refine wpAnyIn_sound ops.size t _ a _ ?_
 simp only [Region.lexB,aw] at hB
 refine wpAnyIn_of_quiet (F:=FW none) (C:=CC w h) (Q:=fun a'=>∀ w',CC w h w'→Q .normal a' w') rfl (fun _ w' hw' h=>h w' hw') _ _ _ _ ⟨hw,rfl,rfl,rfl⟩ ?_
 have h1:wpQuietIn (FW none) 0 P ops (CC w h) (fun a'=>∀ w',CC w h w'→Q .normal a' w') ops.toList a:=
  un (Q':=fun a'=>∀ w',CC w h w'→Q .normal a' w') (m:=cy ops.toList) (a0:=a) (m0:=φ.m) (fun φ a q hf hag hm w' hw'=>hK φ a w' q hf hw'.1 hw'.2 hag hm) ops.toList φ a (fun o ho d hd=>gN ho hd) hall H ha (.refl _ a) rfl
 have:=wpAnyQIn_lex (F:=FW none) (n:=0) (C:=CC w h) (md:=.any) hB.1 ops.toList 0 (Array.replicate ops.size false) a (by simp) (by simpa using hB.2) h1
 simpa using this
variable {base:List Deferred}
structure ft where
 bef:List Nat
 eff:Nat
def ft.befOf (p:ft) (i:Nat):Nat:=p.bef.getD i 0
def pV (a b:Nat):Bool:=Nat.beq (Nat.land a b) a
def dm (ops:List Oper) (k m:Nat):Nat:=
 match ops with
 | []=>0
 | o::rest=>match o.dst with
   | some d=>bif aO m k then Nat.lor (2^d) (dm rest (k+1) m) else dm rest (k+1) m
   | none=>dm rest (k+1) m
def eJ (ops:Array Oper) (m:Nat) (φ:Fr):Fr:=
 { s:=fun t=>bif aO (cy ops.toList) t && !aO (dm ops.toList 0 m) t then none else φ.s t
   m:=φ.m }
def aG (x:Option Value) (u:Value):Prop:=x=some u
def LI (φ:Fr) (d:Option Tmp) (u:Value):Prop:=
 match d with
 | some d=>aG (φ.s d) u
 | none=>True
def vW (p:ft) (i:Nat):List Oper→Nat→Tmp→Bool
 | [],_,_=>false
 | o::rest,k,t=>(match o.dst with
   | some d=>Nat.beq d t&&aO (p.befOf k) i
   | none=>false)||vW p i rest (k+1) t
def over (p:ft) (ops:Array Oper) (i:Nat) (φ0 ψ:Fr):Fr:=
 { s:=fun t=>match ψ.s t with
    | some v=>some v
    | none=>bif vW p i ops.toList 0 t then φ0.s t else none
   m:=ψ.m }
def gq (P:Program) (n:Nat) (ops:Array Oper) (p:ft) (i:Nat) (φ0:Fr) (o:Oper) (φ:Fr) (h:Heap) (K:Fr→Value→Prop):Prop:=
 match o.guard with
 | none=>pW P n o (over p ops i φ0 (eJ ops (p.befOf i) φ)) h fun v=>K φ v
 | some (j,want)=>
   match pN ops j with
   | none=>False
   | some d=>
     match ev n (eJ ops (p.befOf i) φ) (.tmp d) with
     | some (.bool t)=>cond t
       (cond want (pW P n o (over p ops i φ0 (eJ ops (p.befOf i) (φ.put (some d) (.bool true)))) h fun v=>K (φ.put (some d) (.bool true)) v) (K (φ.put (some d) (.bool true)) undef))
       (cond want (K (φ.put (some d) (.bool false)) undef) (pW P n o (over p ops i φ0 (eJ ops (p.befOf i) (φ.put (some d) (.bool false)))) h fun v=>K (φ.put (some d) (.bool false)) v))
     | some (.tuple _)=>K φ undef
     | _=>False
def gE (P:Program) (n:Nat) (et:List TypeId) (ops:Array Oper) (p:ft) (i:Nat) (φ0:Fr) (o:Oper) (φ:Fr) (h:Heap) (K:Fr→Value→Heap→Prop):Prop:=
 match o.guard with
 | none=>us P n et o (over p ops i φ0 (eJ ops (p.befOf i) φ)) h fun v h'=>K φ v h'
 | some (j,want)=>
   match pN ops j with
   | none=>False
   | some d=>
     match ev n (eJ ops (p.befOf i) φ) (.tmp d) with
     | some (.bool t)=>cond t
       (cond want (us P n et o (over p ops i φ0 (eJ ops (p.befOf i) (φ.put (some d) (.bool true)))) h fun v h'=>K (φ.put (some d) (.bool true)) v h') (K (φ.put (some d) (.bool true)) undef h))
       (cond want (K (φ.put (some d) (.bool false)) undef h) (us P n et o (over p ops i φ0 (eJ ops (p.befOf i) (φ.put (some d) (.bool false)))) h fun v h'=>K (φ.put (some d) (.bool false)) v h'))
     | some (.tuple _)=>K φ undef h
     | _=>False
def lD (p:ft) (past:Nat):Nat→Nat→Option Nat
 | 0,_=>none
 | f+1,i=>bif !aO past i && !aO p.eff i&&pV (p.befOf i) past then some i else lD p past f (i+1)
def sL (p:ft) (past:Nat):Nat→Nat→List Nat
 | 0,_=>[]
 | f+1,i=>bif !aO past i&&aO p.eff i&&pV (p.befOf i) past then i::sL p past f (i+1) else sL p past f (i+1)
def again (P:Program) (n:Nat) (ops:Array Oper) (p:ft) (φ0:Fr) (past b:Nat) (φ:Fr) (h:Heap):Nat→Nat→Prop→Prop
 | 0,_,K=>K
 | f+1,i,K=>bif aO past i && !aO p.eff i && !aO b i then
    match ops[i]? with
    | some o=>gq P n ops p i φ0 o φ h (fun φ' u=>LI φ' o.dst u)∧again P n ops p φ0 past b φ h f (i+1) K
    | none=>False
   else again P n ops p φ0 past b φ h f (i+1) K
def yU:List Nat→(Nat→Prop)→Prop
 | [],_=>False
 | [i],f=>f i
 | i::j::r,f=>f i∧yU (j::r) f
def Cl (P:Program) (n:Nat) (et:List TypeId) (ops:Array Oper) (p:ft) (φ0:Fr):(fuel:Nat)→(past:Nat)→Fr→Heap→(Fr→Heap→Prop)→Prop
 | 0,_,_,_,_=>False
 | fuel+1,past,φ,h,K=>
   match lD p past ops.size 0 with
   | some i=>match ops[i]? with
     | some o=>gq P n ops p i φ0 o φ h fun φ' v=>Cl P n et ops p φ0 fuel (Nat.lor past (2^i)) (φ'.put o.dst v) h K
     | none=>False
   | none=>bif Nat.beq past (2^ops.size - 1) then K φ h else
     yU (sL p past ops.size 0) fun i=>match ops[i]? with
      | some o=>gE P n et ops p i φ0 o φ h fun φ' v h'=>again P n ops p φ0 past (p.befOf i) (φ'.put o.dst v) h' ops.size 0 (Cl P n et ops p φ0 fuel (Nat.lor past (2^i)) (φ'.put o.dst v) h' K)
      | none=>False
def gY:List Nat→Bool
 | []=>true
 | x::r => !r.any (Nat.beq x)&&gY r
def qN (p:ft) (o:Oper):Nat:=o.after.toList.foldr (fun e s=>bif Region.binds .any e then Nat.lor (Nat.lor (2^e.on) (p.befOf e.on)) s else s) 0
def lz (p:ft):List Oper→Nat→Bool
 | [],_=>true
 | o::rest,i=>Nat.beq (p.befOf i) (qN p o)&&o.after.toList.all (fun e => !Region.binds .any e||Nat.blt e.on i)&&(bif aO p.eff i then gT o.op else cH o.op)&&lz p rest (i+1)
def gF (p:ft) (ops:Array Oper):Bool:=lz p ops.toList 0&&gY (ops.toList.filterMap (fun o:Oper=>o.dst))
theorem nI {a b:Nat}:pV a b=true↔∀ i,aO a i=true→aO b i=true:=by
 unfold pV
 constructor
 · intro h i hi;have e:=Nat.eq_of_beq_eq_true h;rw [eH] at hi ⊢;have:=congrArg (fun x=>x.testBit i) e;simp only [show Nat.land a b=a &&& b from rfl,Nat.testBit_and,hi,Bool.true_and] at this;exact this
 · intro h;have:Nat.land a b=a:=by
    apply Nat.eq_of_testBit_eq;intro i;rw [show Nat.land a b=a &&& b from rfl,Nat.testBit_and]
    cases ha:a.testBit i with
    | false=>rfl
    | true=>
      have:=h i (by rw [eH]; exact ha);rw [eH] at this;rw [this]; rfl
   rw [this];exact Nat.beq_refl a
theorem iq (i j:Nat):aO (2^i) j=true↔i=j:=by
 rw [eH,Nat.testBit_two_pow]
 simp
theorem gI (j:Nat):aO 0 j=false:=by rw [eH]; simp
theorem aM {m i j:Nat}:aO (Nat.lor m (2^i)) j=true↔aO m j=true∨j=i:=by
 rw [gl,Bool.or_eq_true,iq]
 constructor <;> rintro (h | h) <;> first | exact .inl h | exact .inr h.symm
theorem rY (o:Oper) (l:List Oper) (k m:Nat):dm (o::l) k m=match o.dst with
 | some d=>bif aO m k then Nat.lor (2^d) (dm l (k+1) m) else dm l (k+1) m
 | none=>dm l (k+1) m:=rfl
theorem fF:∀ (l:List Oper) (k m t:Nat),aO (dm l k m) t=true↔∃ i o,l[i]? = some o∧aO m (k+i)=true∧o.dst=some t
 | [],k,m,t=>by simp [dm,gI]
 | o::l,k,m,t=>by
   have ih:=fF l (k+1) m t;have shift:(∃ i o',(o::l)[i]? = some o'∧aO m (k+i)=true∧o'.dst=some t)↔(aO m k=true∧o.dst=some t)∨∃ i o',l[i]? = some o'∧aO m (k+1+i)=true∧o'.dst=some t:=by
    constructor
    · rintro ⟨i,o',h1,h2,h3⟩
      cases i with
      | zero=>simp at h1; subst h1; exact .inl ⟨h2,h3⟩
      | succ i=>exact .inr ⟨i,o',by simpa using h1,by rw [Nat.add_assoc,Nat.add_comm 1]; exact h2,h3⟩
    · rintro (⟨h2,h3⟩ | ⟨i,o',h1,h2,h3⟩)
      · exact ⟨0,o,by simp,h2,h3⟩
      · exact ⟨i+1,o',by simpa using h1,by rw [Nat.add_assoc,Nat.add_comm 1] at h2; exact h2,h3⟩
   rw [shift,← ih,rY]
   cases hd:o.dst with
   | none=>simp
   | some d=>
     simp only []
     cases hb:aO m k with
     | false=>simp
     | true=>
       rw [ab,gl,Bool.or_eq_true,iq];simp [Option.some.injEq]
theorem lB {l:List Oper} {t:Nat}:aO (cy l) t=true↔∃ o∈l,o.dst=some t:=by
 constructor
 · induction l with
   | nil=>intro h; rw [cy,List.foldr_nil,gI] at h; cases h
   | cons o l ih=>
     intro h;simp only [cy,List.foldr_cons] at h
     cases hd:o.dst with
     | none=>rw [hd] at h; obtain ⟨o',h1,h2⟩:=ih h; exact ⟨o',by simp [h1],h2⟩
     | some d=>
       rw [hd] at h;simp only [] at h;rw [gl,Bool.or_eq_true,iq] at h
       rcases h with h | h
       · obtain ⟨o',h1,h2⟩:=ih h; exact ⟨o',by simp [h1],h2⟩
       · exact ⟨o,by simp,by rw [hd,h]⟩
 · rintro ⟨o,ho,hd⟩;exact gN ho hd
section
variable {P:Program} {n:Nat} {et:List TypeId} {ops:Array Oper} {p:ft}
theorem pE:∀ (l:List Oper) (k i:Nat) (o:Oper),lz p l k=true→l[i]? = some o→p.befOf (k+i)=qN p o∧(∀ e∈o.after.toList,Region.binds .any e=true→e.on<k+i)∧(aO p.eff (k+i)=false→cH o.op=true)∧gT o.op=true
 | [],_,_,_,_,h=>by simp at h
 | x::l,k,0,o,hp,h=>by
   simp at h; subst h;simp only [lz,aw,all_eq_true] at hp;refine ⟨Nat.eq_of_beq_eq_true hp.1.1.1,fun e he hb=>?_,?_⟩
   · have:=hp.1.1.2 e he;rw [hb] at this;simp only [az,Bool.false_or] at this;have:=Nat.le_of_ble_eq_true this;omega
   · have h1:=hp.1.2;rw [Nat.add_zero]
     cases hb:aO p.eff k with
     | true=>rw [hb] at h1; exact ⟨fun e=>(by cases e),h1⟩
     | false=>rw [hb] at h1; exact ⟨fun _=>h1,iM h1⟩
 | x::l,k,i+1,o,hp,h=>by
   simp only [lz,aw] at hp;have:=pE l (k+1) i o hp.2 (by simpa using h)
   rwa [show k+1+i=k+(i+1) by omega] at this
theorem qM {o:Oper} {j:Nat}:aO (qN p o) j=true↔∃ e∈o.after.toList,Region.binds .any e=true∧(j=e.on∨aO (p.befOf e.on) j=true):=by
 unfold qN
 induction o.after.toList with
 | nil=>simp [gI]
 | cons e l ih=>
   simp only [List.foldr_cons]
   cases hb:Region.binds .any e with
   | false=>
     rw [aa,ih];constructor
     · rintro ⟨e',h1,h2⟩; exact ⟨e',by simp [h1],h2⟩
     · rintro ⟨e',h1,h2,h3⟩
       rcases ay.1 h1 with rfl | h1
       · rw [hb] at h2; cases h2
       · exact ⟨e',h1,h2,h3⟩
   | true=>
     rw [ab,gl,gl,Bool.or_eq_true,Bool.or_eq_true,iq,ih];constructor
     · rintro ((h | h) | ⟨e',h1,h2⟩)
       · exact ⟨e,by simp,hb,.inl h.symm⟩
       · exact ⟨e,by simp,hb,.inr h⟩
       · exact ⟨e',by simp [h1],h2⟩
     · rintro ⟨e',h1,h2,h3⟩
       rcases ay.1 h1 with rfl | h1
       · rcases h3 with h3 | h3
         · exact .inl (.inl h3.symm)
         · exact .inl (.inr h3)
       · exact .inr ⟨e',h1,h2,h3⟩
theorem ip:∀ (l:List Oper) (i j:Nat) (oi oj:Oper) (d:Tmp),gY (l.filterMap (fun o:Oper=>o.dst))=true→l[i]? = some oi→l[j]? = some oj→oi.dst=some d→oj.dst=some d→i=j
 | [],_,_,_,_,_,_,h,_,_,_=>by simp at h
 | x::l,i,j,oi,oj,d,hd,hi,hj,di,dj=>by
   have mem:∀ (k:Nat) (o:Oper),l[k]? = some o→o.dst=some d→d∈l.filterMap (fun o:Oper=>o.dst):=fun k o hk ho=>List.mem_filterMap.2 ⟨o,ai hk,ho⟩;have hl:gY (l.filterMap (fun o:Oper=>o.dst))=true:=by
    simp only [List.filterMap_cons] at hd
    cases hx:x.dst with
    | none=>rw [hx] at hd; exact hd
    | some y=>rw [hx] at hd; simp only [gY,aw] at hd; exact hd.2
   have clash:∀ (k:Nat) (o:Oper),l[k]? = some o→o.dst=some d→x.dst=some d→False:=fun k o hk ho hx=>by
    simp only [List.filterMap_cons,hx,gY,aw,Bool.not_eq_true',any_eq_false] at hd;exact hd.1 d (mem k o hk ho) (Nat.beq_refl d)
   cases i with
   | zero=>
     simp at hi; subst hi
     cases j with
     | zero=>rfl
     | succ j=>exact (clash j oj (by simpa using hj) dj di).elim
   | succ i=>
     cases j with
     | zero=>simp at hj; subst hj; exact (clash i oi (by simpa using hi) di dj).elim
     | succ j=>rw [ip l i j oi oj d hl (by simpa using hi) (by simpa using hj) di dj]
theorem gO {m:Nat} {φ:Fr} {t:Nat} {v:Value} (h:(eJ ops m φ).s t=some v):φ.s t=some v∧(aO (cy ops.toList) t=false∨aO (dm ops.toList 0 m) t=true):=by
 simp only [eJ] at h
 cases h1:aO (cy ops.toList) t <;> cases h2:aO (dm ops.toList 0 m) t <;> rw [h1,h2] at h <;> simp at h <;> simp [h]
theorem s8 {m m':Nat} (h:∀ i,aO m i=true→aO m' i=true) {φ:Fr} {a:Act} (ha:FA base n (eJ ops m' φ) a):FA base n (eJ ops m φ) a:=by
 refine ⟨ha.defers,ha.size,fun t v hv ht=>ha.slots t v ?_ ht⟩
 obtain ⟨h1,h2⟩:=gO hv
 simp only [eJ]
 rcases h2 with h2 | h2
 · rw [h2]; exact h1
 · have:aO (dm ops.toList 0 m') t=true:=by
    rw [fF] at h2 ⊢;obtain ⟨i,o,e1,e2,e3⟩:=h2;exact ⟨i,o,e1,h _ e2,e3⟩
   rw [this];simp [h1]
theorem qJ {φ:Fr} {d:Tmp} {v:Value} (h:φ.s d=some v):φ.put (some d) v=φ:=by
 cases φ with
 | mk s m=>
   simp only [Fr.put];congr 1;funext t
   cases hb:Nat.beq t d with
   | false=>rfl
   | true=>
     obtain rfl:=Nat.eq_of_beq_eq_true hb;exact h.symm
theorem kr {m i:Nat} {o:Oper} (hd:gY (ops.toList.filterMap (fun o:Oper=>o.dst))=true) (hi:ops[i]? = some o) (hm:aO m i=false) (φ:Fr) (v:Value):eJ ops m (φ.put o.dst v)=eJ ops m φ:=by
 cases hdst:o.dst with
 | none=>rfl
 | some d=>
   simp only [eJ,Fr.put];congr 1;funext t
   cases hb:Nat.beq t d with
   | false=>rfl
   | true=>
     obtain rfl:=Nat.eq_of_beq_eq_true hb;have h1:aO (cy ops.toList) t=true:=lB.2 ⟨o,by simpa using Array.mem_of_getElem? hi,hdst⟩;have h2:aO (dm ops.toList 0 m) t=false:=by
      cases hb2:aO (dm ops.toList 0 m) t with
      | false=>rfl
      | true=>
        obtain ⟨j,o',e1,e2,e3⟩:=(fF _ _ _ _).1 hb2;have:=ip _ i j o o' t hd (by simpa using hi) e1 hdst e3;subst this;rw [Nat.zero_add,hm] at e2;cases e2
     rw [h1,h2]
     rfl
theorem mB {D i:Nat} {o:Oper} {φ:Fr} {a:Act} {v:Value} (hi:ops[i]? = some o) (ha:FA base n (eJ ops D φ) a) (hv:∀ d,o.dst=some d→φ.s d=some v):FA base n (eJ ops (Nat.lor D (2^i)) φ) (a.put o.dst v):=by
 have hs:∀ t u,(eJ ops (Nat.lor D (2^i)) φ).s t=some u→o.dst=some t∨(eJ ops D φ).s t=some u:=by
  intro t u hu;obtain ⟨h1,h2⟩:=gO hu
  rcases h2 with h2 | h2
  · right; simp only [eJ,h2]; exact h1
  · obtain ⟨j,o',e1,e2,e3⟩:=(fF _ _ _ _).1 h2;rw [Nat.zero_add,aM] at e2
    rcases e2 with e2 | rfl
    · right;have:aO (dm ops.toList 0 D) t=true:=(fF _ _ _ _).2 ⟨j,o',e1,by rw [Nat.zero_add]; exact e2,e3⟩;simp only [eJ,this];simpa using h1
    · left;have:some o'=some o:=by rw [← e1]; simpa using hi
      simp only [Option.some.injEq] at this;rw [← this];exact e3
 cases hd:o.dst with
 | none=>
   refine ⟨ha.defers,ha.size,fun t u hu ht=>?_⟩
   rcases hs t u hu with h | h
   · rw [hd] at h; cases h
   · exact ha.slots t u h ht
 | some d=>
   refine ⟨ha.defers,by simp [Act.put,ha.size],fun t u hu ht=>?_⟩;simp only [Act.put];by_cases e:t=d
   · subst e;rw [Array.getElem?_setIfInBounds_self];have h1:=(gO hu).1;rw [hv t hd] at h1;simp only [Option.some.injEq] at h1;simp [ha.size,ht,h1]
   · rw [Array.getElem?_setIfInBounds_ne (Ne.symm e)]
     rcases hs t u hu with h | h
     · rw [hd] at h; simp only [Option.some.injEq] at h; exact absurd h.symm e
     · exact ha.slots t u h ht
theorem rX {o:Oper} {a:Act} {w0:World} {h:Heap} {v:Value} (hr:∀ w,w.heap=h→(execOp a.eval o).run P w=.ok (.value v) w) (w:World) (hw:CC w0 h w):o.quietAtIn (FW none) 0 P a (CC w0 h) w v:=by
 unfold Oper.quietAtIn
 rw [hr w hw.1]
 exact ⟨rfl,rfl⟩
theorem vO {o:Oper} {φ:Fr} {h:Heap} {K:Value→Prop} (H:pW P n o φ h K) (hc:cH o.op=true) :
  ∃ v,K v∧∀ {base:List Deferred} (a:Act) (w0:World),FA base n φ a→∀ w,CC w0 h w→o.quietAtIn (FW none) 0 P a (CC w0 h) w v:=by
 unfold pW at H
 split at H
 · rename_i f args ts hop;obtain ⟨vf,hf,H1⟩:=br H;obtain ⟨vs,hvs,v0,hcall,hd⟩:=eo H1;refine ⟨v0,eP hd,fun a w0 ha w hw=>?_⟩;have e1:args.map a.eval=vs.toArray:=by rw [← hvs a ha]; apply Array.ext'; simp
   have:=nQ (next:=fun _=>True) (w0:=w0) hcall (a:=a) (o:=o) (by simp only [execOp,hop,resolve,bf ha hf,e1]) trivial (fun l x y e=>by
    have:=kT hc _ _ _ hop vf hf;rw [e] at this; cases this)
   obtain ⟨v,hv,_⟩:=this;have hv2:=hv w hw;unfold Oper.quietAtIn at hv2 ⊢;have hr:execOp a.eval o=(do let d ← Deferred.ofValue vf vs.toArray; invoke d.target d.args):=by simp only [execOp,hop,resolve,bf ha hf,e1]
   rw [hr] at hv2 ⊢;unfold cB at hcall;split at hcall
   · rename_i f first cap
     have h1:(do let d ← Deferred.ofValue (.func (.func f) first cap) vs.toArray; invoke d.target d.args).run P w=.ok (.enter f (first.toList++vs++cap.toList).toArray) w:=by
      simp only [Deferred.ofValue,Sem.run_bind,Sem.run_pure,Result.andThen_ok,invoke];rw [show (first++vs.toArray++cap)=(first.toList++vs++cap.toList).toArray from Array.ext' (by simp)];exact fd hcall.1 _ _
     rw [h1];refine ⟨rfl,kV,mz (CallsIn.mono (hcall.2 w hw.1) fun e w' ⟨v,he,q,s⟩=>?_)⟩;exact ⟨by rw [he,q.1],q.2,hw.2.trans s⟩
   · have:=kT hc _ _ _ hop _ hf;cases this
   · exact hcall.elim
 · cases hq:Gp P o.op with
   | false=>rw [hq] at H; exact H.elim
   | true=>
     rw [hq] at H;obtain ⟨v,hv,H⟩:=mn hq H;exact ⟨v,H,fun a w0 ha w hw=>rX (fun w hw=>hv a w ha hw) w hw⟩
def YQ (P:Program) (n:Nat) (ops:Array Oper) (o:Oper) (ψ:Fr) (h:Heap) (v:Value):Prop:=∀ {base:List Deferred} (a:Act) (w0:World),FA base n ψ a→YieldsQuiet (FW none) 0 P ops (CC w0 h) o v a
theorem uG {ψ:Fr} {d:Tmp} {v:Value} (h:ev n ψ (.tmp d)=some v):ψ.s d=some v:=by
 simp only [ev] at h
 cases hb:Nat.blt d n with
 | false=>rw [hb] at h; cases h
 | true=>rw [hb] at h; exact h
theorem ml {i:Nat} {φ0 ψ:Fr} {a:Act} (ha:FA base n (over p ops i φ0 ψ) a):FA base n ψ a:=
 ⟨ha.defers,ha.size,fun t v hv ht=>ha.slots t v (by simp only [over,hv]) ht⟩
theorem sV {i:Nat} {t:Tmp}:∀ (l:List Oper) (k:Nat),vW p i l k t=true→∃ j o,l[j]? = some o∧o.dst=some t∧aO (p.befOf (k+j)) i=true
 | [],k,h=>by cases h
 | o::rest,k,h=>by
   unfold vW at h;simp only [Bool.or_eq_true] at h
   rcases h with h | h
   · cases hd:o.dst with
     | none=>rw [hd] at h; cases h
     | some d=>
       rw [hd] at h;simp only [aw] at h;obtain rfl:=Nat.eq_of_beq_eq_true h.1;exact ⟨0,o,rfl,hd,h.2⟩
   · obtain ⟨j,o',h1,h2,h3⟩:=sV rest (k+1) h;exact ⟨j+1,o',h1,h2,by rw [show k+(j+1)=k+1+j by omega]; exact h3⟩
def wC (p:ft) (n:Nat) (ops:Array Oper) (φ0:Fr) (D:Nat) (a:Act):Prop:=
 ∀ (k:Nat) (o:Oper) (t:Tmp) (v:Value),ops[k]? = some o→o.dst=some t→aO D k=false→φ0.s t=some v→t<n→a.tmps[t]? = some v
theorem yD {i D:Nat} {φ0 ψ:Fr} {a:Act} (ha:FA base n ψ a) (hI:wC p n ops φ0 D a) (hD:aO D i=false) (hc:∀ i,aO D i=true→∀ j,aO (p.befOf i) j=true→aO D j=true):FA base n (over p ops i φ0 ψ) a:=by
 refine ⟨ha.defers,ha.size,fun t v hv ht=>?_⟩
 simp only [over] at hv
 cases hs:ψ.s t with
 | some u=>rw [hs] at hv; exact ha.slots t v (by rw [hs]; exact hv) ht
 | none=>
   rw [hs] at hv;simp only [] at hv
   cases hl:vW p i ops.toList 0 t with
   | false=>rw [hl] at hv; cases hv
   | true=>
     rw [hl,ab] at hv;obtain ⟨j,o,h1,h2,h3⟩:=sV _ _ hl;rw [Nat.zero_add] at h3;refine hI j o t v (by simpa using h1) h2 ?_ hv ht
     cases hb:aO D j with
     | false=>rfl
     | true=>rw [hc j hb i h3] at hD; cases hD
theorem wC.put {i D:Nat} {φ0:Fr} {o:Oper} {a:Act} (hd:gY (ops.toList.filterMap (fun o:Oper=>o.dst))=true) (hi:ops[i]? = some o) (hI:wC p n ops φ0 D a) (v:Value):wC p n ops φ0 (Nat.lor D (2^i)) (a.put o.dst v):=by
 intro k ok t u hk ht hD hs hn
 have hDk:aO D k=false:=by
  cases hb:aO D k with
  | false=>rfl
  | true=>rw [aM.2 (.inl hb)] at hD; cases hD
 have hki:k≠i:=fun e=>by rw [e,aM.2 (.inr rfl)] at hD; cases hD
 have h1:=hI k ok t u hk ht hDk hs hn
 cases hdo:o.dst with
 | none=>exact h1
 | some d=>
   have hne:t≠d:=fun e=>hki (ip _ k i ok o t hd (by simpa using hk) (by simpa using hi) ht (by rw [hdo,e]));simp only [Act.put];rw [Array.getElem?_setIfInBounds_ne (Ne.symm hne)];exact h1
theorem n7 {i:Nat} {φ0:Fr} {o:Oper} {φ:Fr} {h:Heap} {K:Fr→Value→Prop} (H:gq P n ops p i φ0 o φ h K) (hc:cH o.op=true):∃ v,K φ v∧YQ P n ops o (over p ops i φ0 (eJ ops (p.befOf i) φ)) h v:=by
 unfold gq at H
 split at H
 · rename_i hg;obtain ⟨v,hK,hv⟩:=vO H hc;exact ⟨v,hK,fun a w0 ha=>⟨fun _ _ _ _=>trivial,.inl ⟨by simp [Region.wanted,hg],hv a w0 ha⟩⟩⟩
 · rename_i j want hg;split at H
   · exact H.elim
   · rename_i d hd;split at H
     · rename_i t ht;have hs:=(gO (uG ht)).1;have wt:∀ {base:List Deferred} (a:Act),FA base n (over p ops i φ0 (eJ ops (p.befOf i) φ)) a→Region.wanted o (yielded ops a.tmps)=(t==want):=fun a ha=>eL hg hd (iN (ml ha) ht);have yes:(t==want)=true→pW P n o (over p ops i φ0 (eJ ops (p.befOf i) φ)) h (fun v=>K φ v)→∃ v,K φ v∧YQ P n ops o (over p ops i φ0 (eJ ops (p.befOf i) φ)) h v:=fun e H=>by
        obtain ⟨v,hK,hv⟩:=vO H hc;exact ⟨v,hK,fun a w0 ha=>⟨fun _ _ _ _=>trivial,.inl ⟨by rw [wt a ha]; exact e,hv a w0 ha⟩⟩⟩
       have no:(t==want)=false→K φ undef→∃ v,K φ v∧YQ P n ops o (over p ops i φ0 (eJ ops (p.befOf i) φ)) h v:=fun e H=>
        ⟨undef,H,fun a w0 ha=>⟨fun _ _ _ _=>trivial,.inr ⟨by rw [wt a ha]; exact e,rfl⟩⟩⟩
       cases t <;> cases want <;> simp only [ab,aa,qJ hs] at H
       · exact yes rfl H
       · exact no rfl H
       · exact no rfl H
       · exact yes rfl H
     · rename_i vs ht;exact ⟨undef,H,fun a w0 ha=>⟨fun _ _ _ _=>trivial,.inr ⟨eL hg hd (iN (ml ha) ht),rfl⟩⟩⟩
     · exact H.elim
theorem B6 {i:Nat} {φ0:Fr} {o:Oper} {φ:Fr} {h:Heap} {K:Fr→Value→Heap→Prop} {a:Act} {w:World} {next:Act→World→Prop} {Q:Exit→Act→World→Prop} (hi:ops[i]? = some o)
  (H:gE P n et ops p i φ0 o φ h K) (ha:FA base n (over p ops i φ0 (eJ ops (p.befOf i) φ)) a) (hw:w.heap=h) (hn:∀ v w',K φ v w'.heap→cV w w'→next (a.put o.dst v) w'):wpOpIn (FW none) 0 P ops Q i next a w:=by
 unfold wpOpIn
 simp only [hi]
 unfold gE at H
 split at H
 · rename_i hg;rw [al (by simp [Region.wanted,hg])];exact kQ H ha hw hn
 · rename_i j want hg;split at H
   · exact H.elim
   · rename_i d hd;split at H
     · rename_i t ht;have hs:=(gO (uG ht)).1;have wt:Region.wanted o (yielded ops a.tmps)=(t==want):=eL hg hd (iN (ml ha) ht);rw [wt];subst hw;cases t <;> cases want <;> simp only [ab,aa,qJ hs] at H
       · exact al rfl▸kQ H ha rfl hn
       · rw [ak (by simp)]; exact ⟨fun _ _=>trivial,hn _ _ H (.refl w)⟩
       · rw [ak (by simp)]; exact ⟨fun _ _=>trivial,hn _ _ H (.refl w)⟩
       · exact al rfl▸kQ H ha rfl hn
     · rename_i vs ht;have wt:=eL hg hd (iN (ml ha) ht);simp only [] at wt;rw [wt,ak (by simp)];subst hw;exact ⟨fun _ _=>trivial,hn _ _ H (.refl w)⟩
     · exact H.elim
theorem nj {past:Nat}:∀ (f i:Nat),lD p past f i=none→∀ j,i≤j→j<i+f→aO past j=false→aO p.eff j=false→pV (p.befOf j) past=true→False
 | 0,i,_,j,h1,h2,_,_,_=>by omega
 | f+1,i,h,j,h1,h2,h3,h4,h5=>by
   unfold lD at h
   cases hb:(!aO past i && !aO p.eff i&&pV (p.befOf i) past) with
   | true=>rw [hb] at h; cases h
   | false=>
     rw [hb] at h
     rcases Nat.eq_or_lt_of_le h1 with rfl | h1
     · rw [h3,h4,h5] at hb; cases hb
     · exact nj f (i+1) h j h1 (by omega) h3 h4 h5
theorem ni {past k:Nat}:∀ (f i:Nat),lD p past f i=some k→k<i+f∧aO past k=false∧aO p.eff k=false∧pV (p.befOf k) past=true
 | 0,i,h=>by cases h
 | f+1,i,h=>by
   unfold lD at h
   cases hb:(!aO past i && !aO p.eff i&&pV (p.befOf i) past) with
   | true=>
     rw [hb] at h;simp only [ab,Option.some.injEq] at h;subst h;simp only [aw,Bool.not_eq_true'] at hb;exact ⟨by omega,hb.1.1,hb.1.2,hb.2⟩
   | false=>
     rw [hb] at h;have:=ni f (i+1) h;exact ⟨by omega,this.2⟩
theorem oX {past:Nat}:∀ (f i j:Nat),i≤j→j<i+f→aO past j=false→aO p.eff j=true→pV (p.befOf j) past=true→j∈sL p past f i
 | 0,i,j,h1,h2,_,_,_=>by omega
 | f+1,i,j,h1,h2,h3,h4,h5=>by
   unfold sL
   rcases Nat.eq_or_lt_of_le h1 with rfl | h1
   · rw [h3,h4,h5]; exact mem_cons_self
   · have:=oX f (i+1) j h1 (by omega) h3 h4 h5
     cases (!aO past i&&aO p.eff i&&pV (p.befOf i) past) with
     | true=>exact aB _ this
     | false=>exact this
theorem pi {f:Nat→Prop}:∀ {l:List Nat} {i:Nat},yU l f→i∈l→f i
 | [],_,h,_=>h.elim
 | [j],i,h,hi=>by simp at hi; subst hi; exact h
 | j::k::r,i,h,hi=>by
   rcases ay.1 hi with rfl | hi
   · exact h.1
   · exact pi h.2 hi
theorem kZ {φ0:Fr} {past b:Nat} {φ:Fr} {h:Heap} {K:Prop}:∀ (f i:Nat),again P n ops p φ0 past b φ h f i K→K∧∀ j,i≤j→j<i+f→aO past j=true→aO p.eff j=false→aO b j=false→∃ o,ops[j]? = some o∧gq P n ops p j φ0 o φ h (fun φ' u=>LI φ' o.dst u)
 | 0,i,H=>⟨H,fun j h1 h2=>by omega⟩
 | f+1,i,H=>by
   unfold again at H
   cases hb:(aO past i && !aO p.eff i && !aO b i) with
   | true=>
     rw [hb,ab] at H
     cases ho:ops[i]? with
     | none=>rw [ho] at H; exact H.elim
     | some o=>
       rw [ho] at H;obtain ⟨hK,hr⟩:=kZ f (i+1) H.2;refine ⟨hK,fun j h1 h2 h3 h4 h5=>?_⟩
       rcases Nat.eq_or_lt_of_le h1 with rfl | h1
       · exact ⟨o,ho,H.1⟩
       · exact hr j h1 (by omega) h3 h4 h5
   | false=>
     rw [hb,aa] at H;obtain ⟨hK,hr⟩:=kZ f (i+1) H;refine ⟨hK,fun j h1 h2 h3 h4 h5=>?_⟩
     rcases Nat.eq_or_lt_of_le h1 with rfl | h1
     · rw [h3,h4,h5] at hb; cases hb
     · exact hr j h1 (by omega) h3 h4 h5
end
structure Gs (base:List Deferred) (P:Program) (n:Nat) (ops:Array Oper) (p:ft) (φ0:Fr) (m0:List Nat) (w0:World) (a0:Act) (past:Nat) (φ:Fr) (h:Heap) (D:Nat) (a:Act) (w:World):Prop where
 closed:∀ i,aO D i=true→∀ j,aO (p.befOf i) j=true→aO D j=true
 sub:∀ i,aO D i=true→aO past i=true
 effs:∀ i,aO past i=true→aO p.eff i=true→aO D i=true
 lt:∀ i,aO past i=true→i<ops.size
 pclosed:∀ i,aO past i=true→∀ j,aO (p.befOf i) j=true→aO past j=true
 facts:∀ i o,aO past i=true→aO p.eff i=false→aO D i=false→ops[i]? = some o→∃ v,(∀ d,o.dst=some d→φ.s d=some v)∧YQ P n ops o (over p ops i φ0 (eJ ops (p.befOf i) φ)) h v
 inits:wC p n ops φ0 D a
 fa:FA base n (eJ ops D φ) a
 heap:w.heap=h
 same:cV w0 w
 agree:cq (cy ops.toList) a0 a
 marks:φ.m=m0
structure pk (ops:Array Oper) (D:Nat) (listed:Array Bool):Prop where
 size:listed.size=ops.size
 bits:∀ i,i<ops.size→aO D i=listed.getD i false
theorem gz {l:Array Bool} {i:Nat} (h:i<l.size):l.getD i true=l.getD i false:=by simp [Array.getD,h]
section
variable {P:Program} {n:Nat} {et:List TypeId} {ops:Array Oper} {p:ft} {φ0:Fr} {m0:List Nat} {w0:World} {a0:Act}
theorem io (hp:gF p ops=true) {i:Nat} {o:Oper} (hi:ops[i]? = some o):p.befOf i=qN p o∧(∀ e∈o.after.toList,Region.binds .any e=true→e.on<i)∧(aO p.eff i=false→cH o.op=true)∧gT o.op=true:=by
 simp only [gF,aw] at hp
 have:=pE ops.toList 0 i o hp.1 (by simpa using hi)
 rwa [Nat.zero_add] at this
theorem cJ (hp:gF p ops=true):gY (ops.toList.filterMap (fun o:Oper=>o.dst))=true:=by
 simp only [gF,aw] at hp
 exact hp.2
theorem sD {o o':Oper} {i j:Nat} (hp:gF p ops=true) (hi:ops[i]? = some o) (hj:ops[j]? = some o') (hij:i≠j) (φ:Fr) (v:Value) {d:Tmp} (hd:o'.dst=some d):(φ.put o.dst v).s d=φ.s d:=by
 cases hdo:o.dst with
 | none=>rfl
 | some e=>
   have:d≠e:=fun h=>hij (ip _ i j o o' e (cJ hp) (by simpa using hi) (by simpa using hj) hdo (by rw [hd,h]));simp only [Fr.put]
   cases hb:Nat.beq d e with
   | false=>rfl
   | true=>exact absurd (Nat.eq_of_beq_eq_true hb) this
theorem nR {φ:Fr} {o:Oper} {v:Value} {d:Tmp} (hd:o.dst=some d):(φ.put o.dst v).s d=some v:=by
 rw [hd]
 simp only [Fr.put]
 rw [show Nat.beq d d=true from Nat.beq_refl d]
 rfl
theorem qz (hp:gF p ops=true) {h:Heap} {D:Nat} {a:Act} {w:World} {K:Fr→Heap→Prop}:∀ (fuel past:Nat) (φ:Fr),Gs base P n ops p φ0 m0 w0 a0 past φ h D a w→Cl P n et ops p φ0 fuel past φ h K→
  ∃ fuel past φ,Gs base P n ops p φ0 m0 w0 a0 past φ h D a w∧lD p past ops.size 0=none∧Cl P n et ops p φ0 fuel past φ h K
 | 0,_,_,_,H=>H.elim
 | fuel+1,past,φ,I,H=>by
   cases hq:lD p past ops.size 0 with
   | none=>exact ⟨fuel+1,past,φ,I,hq,H⟩
   | some i=>
     unfold Cl at H;rw [hq] at H;simp only [] at H;obtain ⟨hlt,hnp,hne,hsub⟩:=ni _ _ hq;rw [Nat.zero_add] at hlt
     cases ho:ops[i]? with
     | none=>rw [ho] at H; exact H.elim
     | some o=>
       rw [ho] at H;obtain ⟨hbef,hon,hnc⟩:=io hp ho;obtain ⟨v,H2,hy⟩:=n7 H (hnc.1 hne);have hsub':=nI.1 hsub;have hnD:aO D i=false:=by
        cases hb:aO D i with
        | false=>rfl
        | true=>rw [I.sub i hb] at hnp; cases hnp
       have keep:∀ j,(∀ k,aO (p.befOf j) k=true→aO past k=true)→eJ ops (p.befOf j) (φ.put o.dst v)=eJ ops (p.befOf j) φ:=fun j hj=>by
        refine kr (cJ hp) ho ?_ φ v
        cases hb:aO (p.befOf j) i with
        | false=>rfl
        | true=>rw [hj i hb] at hnp; cases hnp
       refine qz hp fuel _ _ ⟨I.closed,fun j hj=>aM.2 (.inl (I.sub j hj)),fun j hj he=>?_,fun j hj=>?_,fun j hj k hk=>?_,fun j o' hj he hD ho'=>?_,I.inits,?_,I.heap,I.same,I.agree,?_⟩ H2
       · rcases aM.1 hj with hj | rfl
         · exact I.effs j hj he
         · rw [hne] at he; cases he
       · rcases aM.1 hj with hj | rfl
         · exact I.lt j hj
         · exact hlt
       · refine aM.2 (.inl ?_)
         rcases aM.1 hj with hj | rfl
         · exact I.pclosed j hj k hk
         · exact hsub' k hk
       · rcases aM.1 hj with hj | rfl
         · obtain ⟨u,hu,hyq⟩:=I.facts j o' hj he hD ho';have hij:i≠j:=fun e=>by subst e; rw [hj] at hnp; cases hnp
           refine ⟨u,fun d hd=>by rw [sD hp ho ho' hij φ v hd]; exact hu d hd,?_⟩;rw [keep j (I.pclosed j hj)];exact hyq
         · have:o'=o:=by rw [ho] at ho'; simpa using ho'.symm
           subst this;refine ⟨v,fun d hd=>nR hd,?_⟩;rw [keep j hsub'];exact hy
       · rw [kr (cJ hp) ho hnD φ v];exact I.fa
       · rw [Fr.put_m]; exact I.marks
theorem count_set {l:Array Bool} {i f:Nat} (hi:i<l.size) (h0:l.getD i true=false) (hc:l.toList.count false≤f+1):(l.setIfInBounds i true).toList.count false≤f:=by
 have hi':i<l.toList.length:=by simpa using hi
 have hv:l.toList[i]=false:=by
  simp [Array.getD,hi] at h0;simpa using h0
 have hcs:=List.count_set (a:=true) (b:=false) hi'
 have hpos:0<l.toList.count false:=List.count_pos_iff.2 (hv▸getElem_mem hi')
 have e1:(l.setIfInBounds i true).toList.count false=l.toList.count false - 1:=by
  rw [Array.toList_setIfInBounds,hcs];have h1:(l.toList[i]==false)=true:=by rw [hv]; rfl
  rw [al h1,ak (by decide)]
  rfl
 rw [e1]
 omega
theorem qZ {D i:Nat} {listed:Array Bool} (hL:pk ops D listed) (hi:i<ops.size):pk ops (Nat.lor D (2^i)) (listed.setIfInBounds i true):=by
 refine ⟨by simp [hL.size],fun j hj=>?_⟩
 have hb:=hL.bits j hj
 have hsz:=hL.size
 by_cases e:j=i
 · subst e;have:aO (Nat.lor D (2^j)) j=true:=aM.2 (.inr rfl);rw [this];simp [Array.getD,hsz,hj]
 · have h1:aO (Nat.lor D (2^i)) j=aO D j:=by
    rw [Bool.eq_iff_iff,aM];exact ⟨fun h=>h.elim id fun h=>absurd h e,.inl⟩
   rw [h1,hb];simp [Array.getD,hsz,hj,Array.getElem_setIfInBounds,Ne.symm e]
theorem J7 (hp:gF p ops=true) {K:Fr→Heap→Prop} {Q:Exit→Act→World→Prop}
  (hK:∀ φ a w,K φ w.heap→FA base n φ a→cV w0 w→cq (cy ops.toList) a0 a→φ.m=m0→Q .normal a w) :
  ∀ (fw:Nat) (listed:Array Bool) (D:Nat) (a:Act) (w:World) (fuel past:Nat) (φ:Fr) (h:Heap),pk ops D listed→listed.toList.count false≤fw→Gs base P n ops p φ0 m0 w0 a0 past φ h D a w→Cl P n et ops p φ0 fuel past φ h K→
    wpAnyIn (FW none) 0 P .any ops Q fw listed a w:=by
 have done:∀ (listed:Array Bool) (D:Nat) (a:Act) (w:World) (fuel past:Nat) (φ:Fr) (h:Heap),pk ops D listed→Gs base P n ops p φ0 m0 w0 a0 past φ h D a w→Cl P n et ops p φ0 fuel past φ h K→
   Region.ready .any ops listed=[]→Q .normal a w:=by
  intro listed D a w fuel past φ h hL I0 H0 hr;obtain ⟨fuel,past,φ,I,hq,H⟩:=qz hp fuel past φ I0 H0;have hall:∀ i,i<ops.size→aO D i=true:=by
   intro i
   induction i using Nat.strongRecOn with
   | ind i ih=>
     intro hi
     cases hb:aO D i with
     | true=>rfl
     | false=>
       exfalso;have ho:ops[i]? = some ops[i]:=Array.getElem?_eq_getElem hi;have:i∈Region.ready .any ops listed:=by
        refine mem_ready.2 ⟨by rw [gz (by rw [hL.size]; exact hi),← hL.bits i hi]; exact hb,ops[i],ho,fun e he hbi=>?_⟩;have hon:=(io hp ho).2.1 e (by simpa using he) hbi;rw [← hL.bits e.on (by omega)];exact ih e.on hon (by omega)
       rw [hr] at this;cases this
  have hpast:past=2^ops.size - 1:=by
   apply Nat.eq_of_testBit_eq;intro i;rw [Nat.testBit_two_pow_sub_one];by_cases hi:i<ops.size
   · have:=I.sub i (hall i hi);rw [eH] at this;simp [hi,this]
   · have:aO past i=false:=by
      cases hb:aO past i with
      | false=>rfl
      | true=>exact absurd (I.lt i hb) hi
     rw [eH] at this;simp [hi,this]
  cases fuel with
  | zero=>exact H.elim
  | succ fuel=>
    unfold Cl at H;rw [hq] at H;simp only [] at H;rw [hpast,Nat.beq_refl,ab] at H;refine hK φ a w (I.heap▸H) ?_ I.same I.agree I.marks;have hfa:=I.fa;refine ⟨hfa.defers,hfa.size,fun t v hv ht=>hfa.slots t v ?_ ht⟩;simp only [eJ]
    cases hm:aO (cy ops.toList) t with
    | false=>exact hv
    | true=>
      obtain ⟨o,ho,hd⟩:=lB.1 hm;obtain ⟨j,hj⟩:=getElem?_of_mem ho;have hjl:j<ops.size:=by
       have:=(aj.1 hj).1;simpa using this
      have:aO (dm ops.toList 0 D) t=true:=(fF _ _ _ _).2 ⟨j,o,hj,by rw [Nat.zero_add]; exact hall j hjl,hd⟩;rw [this];exact hv
 intro fw
 induction fw with
 | zero=>
   intro listed D a w fuel past φ h hL hc I H;have hr:Region.ready .any ops listed=[]:=by
    apply List.eq_nil_iff_forall_not_mem.2;intro i hi;obtain ⟨h0,o,ho,_⟩:=mem_ready.1 hi;have hlt:i<ops.size:=(Array.getElem?_eq_some_iff.1 ho).1;have hil:i<listed.toList.length:=by simpa [hL.size] using hlt
    have hv:listed.toList[i]=false:=by
     simp [Array.getD,hL.size,hlt] at h0;simpa using h0
    have:0<listed.toList.count false:=List.count_pos_iff.2 (hv▸getElem_mem hil);omega
   exact ⟨hr,done listed D a w fuel past φ h hL I H hr⟩
 | succ fw ih=>
   intro listed D a w fuel past φ h hL hc I0 H0;refine ⟨fun hr=>done listed D a w fuel past φ h hL I0 H0 hr,fun i hi=>?_⟩;obtain ⟨fuel,past,φ,I,hq,H⟩:=qz hp fuel past φ I0 H0;obtain ⟨h0,o,ho,hafter⟩:=mem_ready.1 hi;have hlt:i<ops.size:=(Array.getElem?_eq_some_iff.1 ho).1;obtain ⟨hbef,hon,hnc⟩:=io hp ho;have hnD:aO D i=false:=by
    rw [hL.bits i hlt,← gz (by rw [hL.size]; exact hlt)];exact h0
   have hbD:∀ j,aO (p.befOf i) j=true→aO D j=true:=by
    intro j hj;rw [hbef,qM] at hj;obtain ⟨e,he,hbi,hj⟩:=hj;have h1:aO D e.on=true:=by
     rw [hL.bits e.on (by have:=hon e he hbi; omega)];exact hafter e (by simpa using he) hbi
    rcases hj with rfl | hj
    · exact h1
    · exact I.closed _ h1 j hj
   have hL':=qZ hL hlt;have hc':=count_set (by rw [hL.size]; exact hlt) h0 hc;have hfa:=yD (s8 hbD I.fa) I.inits hnD I.closed;have closed':∀ j,aO (Nat.lor D (2^i)) j=true→∀ k,aO (p.befOf j) k=true→aO (Nat.lor D (2^i)) k=true:=fun j hj k hk=>by
    refine aM.2 (.inl ?_)
    rcases aM.1 hj with hj | rfl
    · exact I.closed j hj k hk
    · exact hbD k hk
   have agree':∀ v,cq (cy ops.toList) a0 (a.put o.dst v):=fun v=>I.agree.put (fun d hd=>gN (by simpa using Array.mem_of_getElem? ho) hd) v
   cases hpi:aO past i with
   | true=>
     have hne:aO p.eff i=false:=by
      cases hb:aO p.eff i with
      | false=>rfl
      | true=>rw [I.effs i hpi hb] at hnD; cases hnD
     obtain ⟨v,hv,hy⟩:=I.facts i o hpi hne hnD ho;refine wpOpIn_of_qOpIn (C:=CC w0 h) (K:=fun a'=>a'=a.put o.dst v) rfl ⟨I.heap,I.same⟩ (fun a' w' hw' hK'=>?_) ((hy a w0 hfa).qOpIn ho rfl);subst hK';refine ih _ (Nat.lor D (2^i)) _ w' fuel past φ h hL' hc' ⟨closed',fun j hj=>?_,fun j hj he=>aM.2 (.inl (I.effs j hj he)),I.lt,I.pclosed,fun j o' hj he hD ho'=>I.facts j o' hj he ?_ ho',I.inits.put (cJ hp) ho v,mB ho I.fa hv,hw'.1,hw'.2,agree' v,I.marks⟩ H
     · rcases aM.1 hj with hj | rfl
       · exact I.sub j hj
       · exact hpi
     · cases hb:aO D j with
       | false=>rfl
       | true=>rw [aM.2 (.inl hb)] at hD; cases hD
   | false=>
     have hsubp:pV (p.befOf i) past=true:=nI.2 fun j hj=>I.sub j (hbD j hj);have heff:aO p.eff i=true:=by
      cases hb:aO p.eff i with
      | true=>rfl
      | false=>exact (nj _ _ hq i (au _) (by omega) hpi hb hsubp).elim
     cases fuel with
     | zero=>exact H.elim
     | succ fuel=>
       unfold Cl at H;rw [hq] at H;simp only [] at H;have hnfull:Nat.beq past (2^ops.size - 1)=false:=by
        cases hb:Nat.beq past (2^ops.size - 1) with
        | false=>rfl
        | true=>
          exfalso;have e:=Nat.eq_of_beq_eq_true hb;have:past.testBit i=true:=by rw [e,Nat.testBit_two_pow_sub_one]; simpa using hlt
          rw [← eH,hpi] at this;cases this
       rw [hnfull,aa] at H;have HE:=pi H (oX _ _ i (au _) (by omega) hpi heff hsubp);rw [ho] at HE;refine B6 ho HE hfa I.heap fun v w' hag hs=>?_;obtain ⟨Hn,hagain⟩:=kZ _ _ hag;have keepD:eJ ops D (φ.put o.dst v)=eJ ops D φ:=kr (cJ hp) ho hnD φ v;refine ih _ (Nat.lor D (2^i)) _ w' fuel _ _ _ hL' hc' ⟨closed',fun j hj=>?_,fun j hj he=>?_,fun j hj=>?_,fun j hj k hk=>?_,fun j o' hj he hD ho'=>?_,I.inits.put (cJ hp) ho v,mB ho (by rw [keepD]; exact I.fa) (fun d hd=>nR hd),rfl,I.same.trans hs,agree' v,by rw [Fr.put_m]; exact I.marks⟩ Hn
       · refine aM.2 ?_
         rcases aM.1 hj with hj | rfl
         · exact .inl (I.sub j hj)
         · exact .inr rfl
       · refine aM.2 ?_
         rcases aM.1 hj with hj | rfl
         · exact .inl (I.effs j hj he)
         · exact .inr rfl
       · rcases aM.1 hj with hj | rfl
         · exact I.lt j hj
         · exact hlt
       · refine aM.2 (.inl ?_)
         rcases aM.1 hj with hj | rfl
         · exact I.pclosed j hj k hk
         · exact I.sub k (hbD k hk)
       · rcases aM.1 hj with hj | rfl
         · have hnb:aO (p.befOf i) j=false:=by
            cases hb:aO (p.befOf i) j with
            | false=>rfl
            | true=>rw [aM.2 (.inl (hbD j hb))] at hD; cases hD
           obtain ⟨o2,ho2,hg⟩:=hagain j (au _) (by have:=I.lt j hj; omega) hj he hnb;have:o2=o':=by rw [ho'] at ho2; simpa using ho2.symm
           subst this;obtain ⟨u,hu,hy⟩:=n7 hg ((io hp ho').2.2.1 he);refine ⟨u,fun d hd=>?_,hy⟩;unfold LI at hu;rw [hd] at hu;exact hu
         · rw [heff] at he; cases he
theorem wq {id:Nat} {r:Option Nat} {Q:Exit→Act→World→Prop} {K:Fr→Heap→Prop} {φ:Fr} {h:Heap} {a:Act} {w:World} {fuel:Nat}
  (hm:P.follows .mixedOrders=true) (hp:gF p ops=true) (H:Cl P n et ops p φ fuel 0 φ h K) (ha:FA base n φ a) (hw:w.heap=h)
  (hK:∀ φ' a' w',K φ' w'.heap→FA base n φ' a'→cV w w'→cq (cy ops.toList) a a'→φ'.m=φ.m→Q .normal a' w') :
  (Code.region id ops true).wpIn (FW r) 0 P Q a w:=by
 have hns:∀ (i:Nat) (o:Oper),ops[i]? = some o→gT o.op=true:=fun i o ho=>(io hp ho).2.2.2
 refine wpIn_region_draw fun t=>jU hns _ _ _ ?_
 simp only [Region.schedule,hm,Bool.true_or,if_true]
 refine wpAnyIn_sound ops.size t _ a _ ?_
 refine J7 (φ0:=φ) (w0:=w) (a0:=a) (m0:=φ.m) hp hK ops.size (Array.replicate ops.size false) 0 a _ fuel 0 φ h ⟨by simp,fun i hi=>by simp [gI,Array.getD,hi]⟩ (by simp) ?_ H
 refine ⟨fun i hi=>?_,fun i hi=>?_,fun i hi=>?_,fun i hi=>?_,fun i hi=>?_,fun i o hi=>?_,fun k o t v _ _ _ hv ht=>ha.slots t v hv ht,?_,hw,⟨rfl,rfl,rfl⟩,.refl _ a,rfl⟩
 all_goals first | (rw [gI] at hi; cases hi) | skip
 refine ⟨ha.defers,ha.size,fun t v hv ht=>ha.slots t v (gO hv).1 ht⟩
end
structure Ji (α:Type) where
 enc:α→Value
 dec:Option Value→(α→Prop)→Prop
 ok:∀ v K,dec v K→∃ x,v=some (enc x)∧K x
def ck (k:IntKind):Ji Int where
 enc x:=.int k x
 dec v K:=match v with
  | some (.int k' x)=>cond (decide (k'=k)) (K x) False
  | _=>False
 ok v K h:=by
  split at h
  · rename_i k' x;by_cases e:k'=k
    · subst e; simp only [decide_true,ab] at h; exact ⟨x,rfl,h⟩
    · simp only [e,decide_false,aa] at h
  · exact h.elim
def xT:Ji Bool where
 enc x:=.bool x
 dec v K:=match v with
  | some (.bool x)=>K x
  | _=>False
 ok v K h:=by (split at h <;> first | exact h.elim | exact ⟨_,rfl,h⟩)
def L6:Ji ByteArray where
 enc x:=.string x
 dec v K:=match v with
  | some (.string x)=>K x
  | _=>False
 ok v K h:=by (split at h <;> first | exact h.elim | exact ⟨_,rfl,h⟩)
def J8:Ji (Option Addr) where
 enc x:=.pointer x
 dec v K:=match v with
  | some (.pointer x)=>K x
  | _=>False
 ok v K h:=by (split at h <;> first | exact h.elim | exact ⟨_,rfl,h⟩)
structure Sl where
 a:Option Addr
 l:Nat
 c:Nat
def gn:Ji Sl where
 enc x:=.slice x.a x.l x.c
 dec v K:=match v with
  | some (.slice a l c)=>K ⟨a,l,c⟩
  | _=>False
 ok v K h:=by (split at h <;> first | exact h.elim | exact ⟨_,rfl,h⟩)
structure cR where
 S:Type
 enc:S→List (Nat×Value)
 dec:(Nat→Option Value)→(S→Prop)→Prop
 ok:∀ f K,dec f K→∃ x,(∀ p∈enc x,f p.1=some p.2)∧K x
def bi:cR where
 S:=Unit
 enc _:=[]
 dec _ K:=K ()
 ok f K h:=⟨(),by simp,h⟩
def bw {α:Type} (t:Nat) (c:Ji α):cR where
 S:=α
 enc x:=[(t,c.enc x)]
 dec f K:=c.dec (f t) K
 ok f K h:=let ⟨x,hx,h⟩:=c.ok _ _ h; ⟨x,by simp [hx],h⟩
def bB {α:Type} (t:Nat) (c:Ji α) (A:cR):cR where
 S:=α×A.S
 enc x:=(t,c.enc x.1)::A.enc x.2
 dec f K:=c.dec (f t) fun a=>A.dec f fun b=>K (a,b)
 ok f K h:=by
  obtain ⟨a,ha,h⟩:=c.ok _ _ h;obtain ⟨b,hb,h⟩:=A.ok _ _ h;exact ⟨(a,b),by simpa [ha] using hb,h⟩
def aZ {S:Type} (F:(S→Heap→Prop)→S→Heap→Prop) (s:S) (h:Heap):Prop:=
 ∃ (I:S→Heap→Prop) (μ:S→Heap→Nat),I s h∧∀ s h,I s h→F (fun s' h'=>I s' h'∧μ s' h'<μ s h) s h
def fl:Code→Nat
 | .region _ ops _=>cy ops.toList
 | .seq a b=>Nat.lor (fl a) (fl b)
 | .cond _ a b=>Nat.lor (fl a) (fl b)
 | .block _ c=>fl c
 | .loop c=>fl c
 | _=>0
def fL:Code→Bool
 | .seq a b=>fL a&&fL b
 | .cond _ a b=>fL a&&fL b
 | .block _ c=>fL c
 | .loop c=>fL c
 | .rangeFunc ..=>false
 | _=>true
inductive J where
 | ret
 | exit (id:Nat)
def J.code:J→Code
 | .ret=>.ret
 | .exit i=>.exit i
def J.beq:J→J→Bool
 | .ret,.ret=>true
 | .exit i,.exit j=>Nat.beq i j
 | _,_=>false
def JV (j:J) (l:List J):List J:=bif l.any (J.beq j) then l else j::l
def jK:Code→List J
 | .ret=>[.ret]
 | .exit i=>[.exit i]
 | .seq a b=>(jK a).foldr JV (jK b)
 | .cond _ a b=>(jK a).foldr JV (jK b)
 | .block id c=>(jK c).filter fun j=>match j with
   | .exit i => !Nat.beq i id
   | _=>true
 | .loop c=>jK c
 | .rangeFunc _ _ _ c=>jK c
 | _=>[]
def LH (φ:Fr) (h:Heap) (K:Exit→Fr→Heap→Prop):J→Prop
 | .ret=>K .ret φ h
 | .exit i=>K (.exit i) φ h
def after (φ:Fr) (h:Heap) (K:Exit→Fr→Heap→Prop) (pend:Option Code):List J→Prop
 | []=>pend=none∧K .normal φ h
 | [j]=>(pend=none∨pend=some j.code)∧(pend=none→K .normal φ h)∧(pend=some j.code→LH φ h K j)
 | [j,j']=>(pend=none∨pend=some j.code∨pend=some j'.code)∧(pend=none→K .normal φ h)∧(pend=some j.code→LH φ h K j)∧(pend=some j'.code→LH φ h K j')
 | _=>False
def xf (P:Program) (v:Value) (args:List Value) (h:Heap) (Q:Value→Heap→Prop):Prop:=
 match v with
 | .func (.func f) first cap=>aC P f (first.toList++args++cap.toList) h Q
 | _=>False
def dL (P:Program) (vf:Value) (np:Nat) (r:Option Nat) (h:Heap) (B:Nat→(LoopState→Option Code→Obj)→List Value→Heap→(Value→Heap→Prop)→Prop)
    (A:Option Code→Heap→Prop):Prop:=
 match r with
 | none=>∀ (rec:LoopState→Option Code→Obj),(∀ s p,Jl (rec s p)=false)→
   (∀ args h1 Q,args.length=np→h1[h.size+1]? = some (rec .ready none)→B (h.size+1) rec args h1 Q→lW P (h.size+1) args h1 Q)→
   xf P vf [.func (.yield (h.size+1)) #[] #[]] ((h.push (.deferred (some []))).push (rec .ready none)) fun _ h2=>
    ∃ st pend,h2[h.size+1]? = some (rec st pend)∧st≠.busy∧A pend (h2.setIfInBounds (h.size+1) (rec .exhausted pend))
 | some l0=>(∃ r0,h[l0]? = some (.loop r0))∧∀ (rec:LoopState→Option Code→Obj),(∀ s p,Jl (rec s p)=false)→
   (∀ args h1 Q,args.length=np→h1[h.size]? = some (rec .ready none)→B h.size rec args h1 Q→lW P h.size args h1 Q)→
   xf P vf [.func (.yield h.size) #[] #[]] (h.push (rec .ready none)) fun _ h2=>
    ∃ st pend,h2[h.size]? = some (rec st pend)∧st≠.busy∧A pend (h2.setIfInBounds h.size (rec .exhausted pend))
def qB (l:Nat) (rec:LoopState→Option Code→Obj) (Q:Value→Heap→Prop) (e:Exit) (φ:Fr) (h:Heap):Prop:=
 match e with
 | .normal=>h[l]? = some (rec .busy none)∧Q (.bool true) (h.setIfInBounds l (rec .ready none))
 | .ret=>h[l]? = some (rec .busy none)∧Q (.bool false) (h.setIfInBounds l (rec .done (some .ret)))
 | .exit i=>h[l]? = some (rec .busy none)∧Q (.bool false) (h.setIfInBounds l (rec .done (some (.exit i))))
 | _=>False
def lx (φ:Fr):List Tmp→List Value→Fr
 | t::ts,v::vs=>lx (φ.put (some t) v) ts vs
 | _,_=>φ
def mark (r:Option Nat) (φ:Fr) (d:Nat):Fr:=
 match r with
 | none=>{ s:=φ.s,m:=d::φ.m }
 | some _=>φ
def ug (l:List (Nat×Value)) (t:Nat):Option Value:=
 match l with
 | []=>none
 | (u,v)::r=>bif Nat.beq t u then some v else ug r t
def lG (enc:List (Nat×Value)) (m:Nat) (φ:Fr):Fr:=
 { s:=fun t=>match ug enc t with
    | some v=>some v
    | none=>bif aO m t then none else φ.s t
   m:=φ.m }
def qd (enc:List (Nat×Value)) (m:Nat) (φ:Fr) (ms:List Nat):Fr:={ s:=(lG enc m φ).s,m:=ms }
def uZ (P:Program) (n:Nat) (ann:Nat→cR) (tys:Nat→List TypeId) (pl:Nat→Option ft):(r:Option Nat)→Code→Nat→Fr→Heap→(Exit→Fr→Heap→Prop)→Prop
 | _,.skip,_,φ,h,K=>K .normal φ h
 | _,.label _,_,φ,h,K=>K .normal φ h
 | r,.seq a b,cur,φ,h,K=>uZ P n ann tys pl r a cur φ h fun e φ' h'=>match e with
   | .normal=>uZ P n ann tys pl r b cur φ' h' K
   | e=>K e φ' h'
 | r,.cond c x y,cur,φ,h,K=>rd n φ c fun v=>match v with
   | .bool t=>cond t (uZ P n ann tys pl r x cur φ h K) (uZ P n ann tys pl r y cur φ h K)
   | _=>False
 | r,.block id c,cur,φ,h,K=>uZ P n ann tys pl r c id φ h fun e φ' h'=>match e with
   | .exit i=>cond (Nat.beq i id) (K .normal φ' h') (K (.exit i) φ' h')
   | e=>K e φ' h'
 | _,.exit i,_,φ,h,K=>K (.exit i) φ h
 | _,.ret,_,φ,h,K=>K .ret φ h
 | r,.loop c,cur,φ,h,K=>cond (fL c) ((ann cur).dec φ.s fun s0=>aZ (fun again s h=>uZ P n ann tys pl r c cur (lG ((ann cur).enc s) (fl c) φ) h fun e φ' h'=>match e with
   | .normal=>(ann cur).dec φ'.s fun s'=>again s' h'
   | e=>K e φ' h') s0 h)
     ((ann cur).dec φ.s fun s0=>aZ (fun again sm h=>uZ P n ann tys pl r c cur (qd ((ann cur).enc sm.1) (fl c) φ sm.2) h fun e φ' h'=>match e with
       | .normal=>(ann cur).dec φ'.s fun s'=>again (s',φ'.m) h'
       | e=>K e φ' h') (s0,φ.m) h)
 | _,.region id ops draw,_,φ,h,K=>cond draw
   (match pl id with
   | some p=>cond (P.follows .mixedOrders&&gF p ops) (Cl P n (tys (1000+id)) ops p φ (ops.size+1) 0 φ h fun φ' h'=>K .normal φ' h') False
   | none=>cond (P.follows .mixedOrders&&Region.lexB .any ops&&ops.toList.all (fun o=>cH o.op)) (ia P n ops ops.toList φ h fun φ'=>K .normal φ' h) False)
   (li P n (tys (1000+id)) ops ops.toList φ h fun φ' h'=>K .normal φ' h')
 | r,.rangeFunc f ps assign body,cur,φ,h,K=>rd n φ f fun vf=>dL P vf ps.size r h
   (fun l rec args h1 Q=>He P (tys cur) fun vs=>args=vs∧uZ P n ann tys pl (some l) assign cur (lx { s:=φ.s,m:=[] } ps.toList vs) h1 fun e φ1 h2=>match e with
    | .normal=>h2[l]? = some (rec .ready none)∧uZ P n ann tys pl (some l) body cur φ1 (h2.setIfInBounds l (rec .busy none)) (qB l rec Q)
    | _=>False)
   (fun pend h2=>after (mark r φ h.size) h2 K pend (jK body))
 | _,_,_,_,_,_=>False
variable {base:List Deferred}
theorem qw:∀ {l:List (Nat×Value)} {t:Nat} {v:Value},ug l t=some v→(t,v)∈l:=by
 intro l
 induction l with
 | nil=>intro t v h; cases h
 | cons p r ih=>
   intro t v h;obtain ⟨u,x⟩:=p;simp only [ug] at h
   cases hb:Nat.beq t u with
   | true=>
     rw [hb] at h;obtain rfl:=Nat.eq_of_beq_eq_true hb;simp only [ab,Option.some.injEq] at h;subst h;exact mem_cons_self
   | false=>
     rw [hb] at h;exact aB _ (ih h)
theorem mq {n m:Nat} {enc:List (Nat×Value)} {φ φ':Fr} {a a':Act} (ha:FA base n φ a) (ha':FA base n φ' a') (hm:φ'.m=φ.m) (he:∀ p∈enc,φ'.s p.1=some p.2) (hag:cq m a a'):FA base n (lG enc m φ) a':=by
 refine ⟨by rw [ha'.defers,hm]; rfl,ha'.size,fun t v hv ht=>?_⟩
 simp only [lG] at hv
 split at hv
 · rename_i u hu;simp only [Option.some.injEq] at hv;subst hv;exact ha'.slots t u (he _ (qw hu)) ht
 · cases hb:aO m t with
   | true=>rw [hb] at hv; cases hv
   | false=>
     rw [hb] at hv;rw [hag t hb];exact ha.slots t v hv ht
theorem qW {n m:Nat} {enc:List (Nat×Value)} {φ φ':Fr} {a a':Act} (ha:FA base n φ a) (ha':FA base n φ' a') (he:∀ p∈enc,φ'.s p.1=some p.2) (hag:cq m a a'):FA base n (qd enc m φ φ'.m) a':=by
 refine ⟨ha'.defers,ha'.size,fun t v hv ht=>?_⟩
 simp only [qd,lG] at hv
 split at hv
 · rename_i u hu;simp only [Option.some.injEq] at hv;subst hv;exact ha'.slots t u (he _ (qw hu)) ht
 · cases hb:aO m t with
   | true=>rw [hb] at hv; cases hv
   | false=>
     rw [hb] at hv;rw [hag t hb];exact ha.slots t v hv ht
theorem sE {n:Nat}:∀ {ts:List Tmp} {vs:List Value} {φ:Fr} {a:Act},FA base n φ a→FA base n (lx φ ts vs) { a with tmps:=(ts.zip vs).foldl (fun tmps p=>tmps.setIfInBounds p.1 p.2) a.tmps }
 | [],_,φ,a,h=>by simpa [lx] using h
 | t::ts,[],φ,a,h=>by simpa [lx] using h
 | t::ts,v::vs,φ,a,h=>by
   have h1:=h.put (some t) v;have h2:=sE (ts:=ts) (vs:=vs) h1;simpa [lx,Act.put] using h2
theorem pR {P:Program} {r:Option Nat} {Q:Exit→Act→World→Prop} {K:Exit→Fr→Heap→Prop} {φ:Fr} {h:Heap} {a:Act} {w:World} {pend:Option Code} {js:List J}
  (H:after φ h K pend js) (hQ:∀ e,K e φ h→Q e a w) :
  match pend with
  | none=>Q .normal a w
  | some c=>c.wpIn (FW r) 0 P Q a w:=by
 have jm:∀ j:J,LH φ h K j→j.code.wpIn (FW r) 0 P Q a w:=fun j hj=>by
  cases j with
  | ret=>exact wpIn_ret (hQ .ret hj)
  | exit i=>exact wpIn_exit (hQ (.exit i) hj)
 match js,H with
 | [],⟨h1,h2⟩=>subst h1; exact hQ _ h2
 | [j],⟨h1,h2,h3⟩=>
   rcases h1 with rfl | rfl
   · exact hQ _ (h2 rfl)
   · exact jm j (h3 rfl)
 | [j,j'],⟨h1,h2,h3,h4⟩=>
   rcases h1 with rfl | rfl | rfl
   · exact hQ _ (h2 rfl)
   · exact jm j (h3 rfl)
   · exact jm j' (h4 rfl)
theorem tt {P:Program} {vf:Value} {vs:List Value} {h:Heap} {R:Value→Heap→Prop} (H:xf P vf vs h R) :
  ∃ f first cap,vf=.func (.func f) first cap∧aC P f (first.toList++vs++cap.toList) h R:=by
 unfold xf at H
 split at H
 · exact ⟨_,_,_,rfl,H⟩
 · exact H.elim
section
variable {P:Program} {n:Nat} {ann:Nat→cR} {tys:Nat→List TypeId} {pl:Nat→Option ft}
theorem mP {l:Nat} {rl:Go.Loop} {ps:Array Tmp} {assign body:Code} {cur:Nat} {φ:Fr} {a:Act}
  (ihA:∀ {base:List Deferred} r cur φ h K a w Q,uZ P n ann tys pl r assign cur φ h K→FA base n φ a→w.heap=h→(∀ e φ' a' w',K e φ' w'.heap→FA base n φ' a'→cV w w'→cq (fl assign) a a'→(fL assign=true→φ'.m=φ.m)→Q e a' w')→assign.wpIn (FW r) 0 P Q a w)
  (ihB:∀ {base:List Deferred} r cur φ h K a w Q,uZ P n ann tys pl r body cur φ h K→FA base n φ a→w.heap=h→(∀ e φ' a' w',K e φ' w'.heap→FA base n φ' a'→cV w w'→cq (fl body) a a'→(fL body=true→φ'.m=φ.m)→Q e a' w')→body.wpIn (FW r) 0 P Q a w)
  (ha:FA base n φ a) (hps:rl.params=ps) (htm:rl.tmps=a.tmps) (hasg:rl.assign=assign) (hbody:rl.body=body)
  {args:List Value} {h1:Heap} {Q:Value→Heap→Prop} (hlen:args.length=ps.size) (hl:h1[l]? = some (.loop { rl with state:=.ready,pending:=none }))
  (H:He P (tys cur) fun vs=>args=vs∧uZ P n ann tys pl (some l) assign cur (lx { s:=φ.s,m:=[] } ps.toList vs) h1 fun e φ1 h2=>match e with
   | .normal=>h2[l]? = some (.loop { rl with state:=.ready,pending:=none })∧uZ P n ann tys pl (some l) body cur φ1 (h2.setIfInBounds l (.loop { rl with state:=.busy,pending:=none })) (qB l (fun st p=>.loop { rl with state:=st,pending:=p }) Q)
   | _=>False):lW P l args h1 Q:=by
 intro w1 hw1
 subst hw1
 obtain ⟨vs,rfl,H⟩:=ky H
 have hy:=run_yield (P:=P) (w:=w1) (args:=args.toArray) hl (by simpa [hps] using hlen)
 refine ⟨_,_,_,_,hy,roundIn_of_wpIn trivial ?_⟩
 simp only [hps,htm,hasg,hbody]
 have hfa:FA [] n (lx { s:=φ.s,m:=[] } ps.toList args) { tmps:=(ps.zip args.toArray).foldl (fun tmps (t,a)=>tmps.setIfInBounds t a) a.tmps,defers:=[] }:=by
  have h0:FA [] n { s:=φ.s,m:=[] } { tmps:=a.tmps,defers:=[] }:=⟨rfl,ha.size,ha.slots⟩
  have:=sE (ts:=ps.toList) (vs:=args) h0;rw [← Array.foldl_toList];simpa using this
 rw [show (Fence.wide.inRound l)=FW (some l) from rfl]
 refine ihA (some l) cur _ _ _ _ _ _ H hfa rfl ?_
 intro e φ1 a1 w2 hq hfa1 hs1 _ _
 cases e <;> simp only [] at hq <;> first | exact hq.elim | skip
 obtain ⟨hl2,hb⟩:=hq
 refine ⟨_,run_beginRound hl2 rfl,?_⟩
 refine ihB (some l) cur _ _ _ _ _ _ hb hfa1 rfl ?_
 intro e φ2 a2 w3 hq2 _ hs2 _ _
 have hs3:cV w1 w3:=hs1.trans ⟨hs2.os,hs2.tape,hs2.output⟩
 cases e <;> simp only [qB] at hq2 <;> first | exact hq2.elim | skip
 · exact ⟨_,_,run_endRound none hq2.1,_,rfl,hq2.2,⟨hs3.os,hs3.tape,hs3.output⟩⟩
 · exact ⟨_,_,run_endRound (some (.exit _)) hq2.1,_,rfl,hq2.2,⟨hs3.os,hs3.tape,hs3.output⟩⟩
 · exact ⟨_,_,run_endRound (some .ret) hq2.1,_,rfl,hq2.2,⟨hs3.os,hs3.tape,hs3.output⟩⟩
theorem tv:∀ (c:Code) {base:List Deferred} (r:Option Nat) (cur:Nat) (φ:Fr) (h:Heap) (K:Exit→Fr→Heap→Prop) (a:Act) (w:World) (Q:Exit→Act→World→Prop),
  uZ P n ann tys pl r c cur φ h K→FA base n φ a→w.heap=h→
  (∀ e φ' a' w',K e φ' w'.heap→FA base n φ' a'→cV w w'→cq (fl c) a a'→(fL c=true→φ'.m=φ.m)→Q e a' w')→c.wpIn (FW r) 0 P Q a w:=by
 intro c
 induction c with
 | skip=>intro base r cur φ h K a w Q H ha hw hQ; subst hw; exact wpIn_skip (hQ _ _ _ _ H ha (.refl w) (.refl _ a) fun _=>rfl)
 | label l=>intro base r cur φ h K a w Q H ha hw hQ; subst hw; exact wpIn_label (hQ _ _ _ _ H ha (.refl w) (.refl _ a) fun _=>rfl)
 | exit i=>intro base r cur φ h K a w Q H ha hw hQ; subst hw; exact wpIn_exit (hQ _ _ _ _ H ha (.refl w) (.refl _ a) fun _=>rfl)
 | ret=>intro base r cur φ h K a w Q H ha hw hQ; subst hw; exact wpIn_ret (hQ _ _ _ _ H ha (.refl w) (.refl _ a) fun _=>rfl)
 | goto l=>intro base r cur φ h K a w Q H; exact H.elim
 | scope c _=>intro base r cur φ h K a w Q H; exact H.elim
 | refuse why=>intro base r cur φ h K a w Q H; exact H.elim
 | seq x y ihx ihy=>
   intro base r cur φ h K a w Q H ha hw hQ;refine wpIn_seq (ihx r cur φ h _ a w _ H ha hw ?_);intro e φ' a' w' hq ha' hs hag hm
   cases e with
   | normal=>
     refine ihy r cur φ' _ K a' w' _ hq ha' rfl ?_;intro e φ2 a2 w2 hq2 ha2 hs2 hag2 hm2;refine hQ e φ2 a2 w2 hq2 ha2 (hs.trans hs2) (hag.left.trans hag2.right) fun hn=>?_;simp only [fL,aw] at hn;exact (hm2 hn.2).trans (hm hn.1)
   | exit i=>exact hQ _ _ _ _ hq ha' hs hag.left fun hn=>hm (by simp only [fL,aw] at hn; exact hn.1)
   | goto i=>exact hQ _ _ _ _ hq ha' hs hag.left fun hn=>hm (by simp only [fL,aw] at hn; exact hn.1)
   | ret=>exact hQ _ _ _ _ hq ha' hs hag.left fun hn=>hm (by simp only [fL,aw] at hn; exact hn.1)
   | panic ch=>exact hQ _ _ _ _ hq ha' hs hag.left fun hn=>hm (by simp only [fL,aw] at hn; exact hn.1)
   | outgrown=>exact hQ _ _ _ _ hq ha' hs hag.left fun hn=>hm (by simp only [fL,aw] at hn; exact hn.1)
 | cond c x y ihx ihy=>
   intro base r cur φ h K a w Q H ha hw hQ;obtain ⟨v,hv,H⟩:=br H;cases v <;> simp only [] at H <;> first | exact H.elim | skip
   rename_i t;refine wpIn_cond (bf ha hv) ?_
   cases t with
   | true=>exact ihx r cur φ h K a w _ H ha hw fun e φ' a' w' hq ha' hs hag hm=>hQ e φ' a' w' hq ha' hs hag.left fun hn=>hm (by simp only [fL,aw] at hn; exact hn.1)
   | false=>exact ihy r cur φ h K a w _ H ha hw fun e φ' a' w' hq ha' hs hag hm=>hQ e φ' a' w' hq ha' hs hag.right fun hn=>hm (by simp only [fL,aw] at hn; exact hn.2)
 | block id c ih=>
   intro base r cur φ h K a w Q H ha hw hQ;refine wpIn_block (ih r id φ h _ a w _ H ha hw ?_);intro e φ' a' w' hq ha' hs hag hm
   cases e with
   | exit i=>
     simp only [] at hq;simp only [Exit.inBlock]
     cases hb:Nat.beq i id with
     | true=>
       rw [hb] at hq;rw [al (Nat.eq_of_beq_eq_true hb)];exact hQ _ _ _ _ hq ha' hs hag hm
     | false=>
       rw [hb] at hq;rw [ak (fun e=>by rw [e,Nat.beq_refl] at hb; cases hb)];exact hQ _ _ _ _ hq ha' hs hag hm
   | normal=>exact hQ _ _ _ _ hq ha' hs hag hm
   | goto i=>exact hQ _ _ _ _ hq ha' hs hag hm
   | ret=>exact hQ _ _ _ _ hq ha' hs hag hm
   | panic ch=>exact hQ _ _ _ _ hq ha' hs hag hm
   | outgrown=>exact hQ _ _ _ _ hq ha' hs hag hm
 | loop c ih=>
   intro base r cur φ h K a w Q H ha hw hQ;simp only [uZ] at H
   cases hn:fL c with
   | false=>
     rw [hn] at H;obtain ⟨s0,hs0,J,μ,h0,hround⟩:=(ann cur).ok _ _ H;have hno:fL (.loop c)=true→False:=fun e=>by simp only [fL] at e; rw [hn] at e; cases e
     refine wpIn_loop_ghost (fun k a' w'=>∃ s ms,J (s,ms) w'.heap∧μ (s,ms) w'.heap=k∧FA base n (qd ((ann cur).enc s) (fl c) φ ms) a'∧cq (fl c) a a'∧cV w w') (μ (s0,φ.m) h)
      ⟨s0,φ.m,hw▸h0,by rw [hw],qW ha ha hs0 (.refl _ a),.refl _ a,.refl w⟩ ?_
     rintro k a1 w1 ⟨s,ms,hJ,rfl,ha1,hag1,hs1⟩;refine ih r cur _ _ _ a1 w1 _ (hround (s,ms) w1.heap hJ) ha1 rfl ?_;intro e φ2 a2 w2 hq ha2 hs2 hag2 hm2
     cases e with
     | normal=>
       obtain ⟨s',he,hJ',hlt⟩:=(ann cur).ok _ _ hq;exact ⟨_,hlt,s',φ2.m,hJ',rfl,qW ha ha2 he (hag1.trans hag2),hag1.trans hag2,hs1.trans hs2⟩
     | exit i=>exact hQ _ _ _ _ hq ha2 (hs1.trans hs2) (hag1.trans hag2) fun e=>(hno e).elim
     | goto i=>exact hQ _ _ _ _ hq ha2 (hs1.trans hs2) (hag1.trans hag2) fun e=>(hno e).elim
     | ret=>exact hQ _ _ _ _ hq ha2 (hs1.trans hs2) (hag1.trans hag2) fun e=>(hno e).elim
     | panic ch=>exact hQ _ _ _ _ hq ha2 (hs1.trans hs2) (hag1.trans hag2) fun e=>(hno e).elim
     | outgrown=>exact hQ _ _ _ _ hq ha2 (hs1.trans hs2) (hag1.trans hag2) fun e=>(hno e).elim
   | true=>
     rw [hn] at H;obtain ⟨s0,hs0,J,μ,h0,hround⟩:=(ann cur).ok _ _ H;refine wpIn_loop_ghost (fun k a' w'=>∃ s,J s w'.heap∧μ s w'.heap=k∧FA base n (lG ((ann cur).enc s) (fl c) φ) a'∧cq (fl c) a a'∧cV w w') (μ s0 h)
      ⟨s0,hw▸h0,by rw [hw],mq ha ha rfl hs0 (.refl _ a),.refl _ a,.refl w⟩ ?_
     rintro k a1 w1 ⟨s,hJ,rfl,ha1,hag1,hs1⟩;refine ih r cur _ _ _ a1 w1 _ (hround s w1.heap hJ) ha1 rfl ?_;intro e φ2 a2 w2 hq ha2 hs2 hag2 hm2;have hm2':φ2.m=φ.m:=hm2 hn
     cases e with
     | normal=>
       obtain ⟨s',he,hJ',hlt⟩:=(ann cur).ok _ _ hq;exact ⟨_,hlt,s',hJ',rfl,mq ha ha2 hm2' he (hag1.trans hag2),hag1.trans hag2,hs1.trans hs2⟩
     | exit i=>exact hQ _ _ _ _ hq ha2 (hs1.trans hs2) (hag1.trans hag2) fun _=>hm2'
     | goto i=>exact hQ _ _ _ _ hq ha2 (hs1.trans hs2) (hag1.trans hag2) fun _=>hm2'
     | ret=>exact hQ _ _ _ _ hq ha2 (hs1.trans hs2) (hag1.trans hag2) fun _=>hm2'
     | panic ch=>exact hQ _ _ _ _ hq ha2 (hs1.trans hs2) (hag1.trans hag2) fun _=>hm2'
     | outgrown=>exact hQ _ _ _ _ hq ha2 (hs1.trans hs2) (hag1.trans hag2) fun _=>hm2'
 | region id ops draw=>
   intro base r cur φ h K a w Q H ha hw hQ;simp only [uZ] at H
   cases draw with
   | false=>
     exact um H ha hw fun φ' a' w' hq ha' hs hag hm=>hQ _ _ _ _ hq ha' hs hag fun _=>hm
   | true=>
     simp only [ab] at H;split at H
     · rename_i p hpl
       cases hb:(P.follows .mixedOrders&&gF p ops) with
       | false=>rw [hb] at H; exact H.elim
       | true=>
         rw [hb] at H;simp only [aw] at hb;exact wq hb.1 hb.2 H ha hw fun φ' a' w' hq ha' hs hag hm=>hQ _ _ _ _ hq ha' hs hag fun _=>hm
     cases hb:(P.follows .mixedOrders&&Region.lexB .any ops&&ops.toList.all (fun o=>cH o.op)) with
     | false=>rw [hb] at H; exact H.elim
     | true=>
       rw [hb] at H;simp only [aw] at hb;have hall:ops.all (fun o=>cH o.op)=true:=by rw [← Array.all_toList]; exact hb.2
       exact rn hb.1.1 hb.1.2 hall H ha hw fun φ' a' w' hq ha' hw' hs hag hm=>hQ _ _ _ _ (hw'▸hq) ha' hs hag fun _=>hm
 | rangeFunc f ps assign body ihA ihB=>
   intro base r cur φ h K a w Q H ha hw hQ;obtain ⟨vf,hf,H⟩:=br H;refine wpIn_rangeFunc fun fn hfn=>?_;subst hw
   cases r with
   | none=>
     simp only [dL] at H;have H1:=H (fun st p=>.loop { state:=st,pending:=p,fn:=fn,tmps:=a.tmps,params:=ps,assign:=assign,body:=body,defers:=w.heap.size }) (fun _ _=>rfl)
      (fun args h1 Q hlen hl hB=>mP (rl:={ state:=.ready,pending:=none,fn:=fn,tmps:=a.tmps,params:=ps,assign:=assign,body:=body,defers:=w.heap.size }) ihA ihB ha rfl rfl rfl rfl hlen hl hB)
     obtain ⟨f,first,cap,rfl,H2⟩:=tt H1;refine ⟨w.heap.size+1,[{ target:=.collected w.heap.size,args:=#[] }],((w.alloc (.deferred (some []))).alloc (.loop { state:=.ready,pending:=none,fn:=fn,tmps:=a.tmps,params:=ps,assign:=assign,body:=body,defers:=w.heap.size })),{ target:=.fn (.func f) cap,args:=first++#[.func (.yield (w.heap.size+1)) #[] #[]] },((w.alloc (.deferred (some []))).alloc (.loop { state:=.ready,pending:=none,fn:=fn,tmps:=a.tmps,params:=ps,assign:=assign,body:=body,defers:=w.heap.size })),f,
      (first.toList++[Value.func (.yield (w.heap.size+1)) #[] #[]]++cap.toList).toArray,((w.alloc (.deferred (some []))).alloc (.loop { state:=.ready,pending:=none,fn:=fn,tmps:=a.tmps,params:=ps,assign:=assign,body:=body,defers:=w.heap.size })),run_enterLoop_outer _ _ _ _ _,?_,fun _ _=>trivial,?_,kV,?_⟩
     · have e1:∀ v:Value,Array.map a.eval #[Operand.const v]=#[v]:=fun v=>by simp [Act.eval]
       simp only [resolve,bf ha hf,Deferred.ofValue,e1]
       rfl
     · simp only [invoke];rw [show (first++#[Value.func (.yield (w.heap.size+1)) #[] #[]]++cap)=(first.toList++[Value.func (.yield (w.heap.size+1)) #[] #[]]++cap.toList).toArray from Array.ext' (by simp)];exact fd H2.1 _ _
     · refine mz (CallsIn.mono (H2.2 _ rfl) ?_);rintro e w3 ⟨v,rfl,⟨st,pend,hl3,hst,hA⟩,hs3⟩;refine ⟨pend,_,run_endLoop hl3 hst,?_⟩;have hfa:FA base n (Go.Proofs.YtmemjbiijclbdaaGreat.mark none φ w.heap.size) { a with defers:=[{ target:=.collected w.heap.size,args:=#[] }]++a.defers }:=
        ⟨by simp [Go.Proofs.YtmemjbiijclbdaaGreat.mark,ha.defers],ha.size,ha.slots⟩
       have:=pR (P:=P) (r:=none) (Q:=Q) (a:={ a with defers:=[{ target:=.collected w.heap.size,args:=#[] }]++a.defers }) (w:=w3.putObj (w.heap.size+1) (.loop { state:=.exhausted,pending:=pend,fn:=fn,tmps:=a.tmps,params:=ps,assign:=assign,body:=body,defers:=w.heap.size })) hA
        (fun e he=>hQ e _ _ _ he hfa ⟨hs3.os,hs3.tape,hs3.output⟩ (fun _ _=>rfl) (fun hn=>by cases hn))
       cases pend <;> exact this
   | some l0=>
     simp only [dL] at H;obtain ⟨⟨r0,hr0⟩,H⟩:=H;have H1:=H (fun st p=>.loop { state:=st,pending:=p,fn:=fn,tmps:=a.tmps,params:=ps,assign:=assign,body:=body,defers:=r0.defers }) (fun _ _=>rfl)
      (fun args h1 Q hlen hl hB=>mP (rl:={ state:=.ready,pending:=none,fn:=fn,tmps:=a.tmps,params:=ps,assign:=assign,body:=body,defers:=r0.defers }) ihA ihB ha rfl rfl rfl rfl hlen hl hB)
     obtain ⟨f,first,cap,rfl,H2⟩:=tt H1;refine ⟨w.heap.size,[],(w.alloc (.loop { state:=.ready,pending:=none,fn:=fn,tmps:=a.tmps,params:=ps,assign:=assign,body:=body,defers:=r0.defers })),{ target:=.fn (.func f) cap,args:=first++#[.func (.yield w.heap.size) #[] #[]] },(w.alloc (.loop { state:=.ready,pending:=none,fn:=fn,tmps:=a.tmps,params:=ps,assign:=assign,body:=body,defers:=r0.defers })),f,
      (first.toList++[Value.func (.yield w.heap.size) #[] #[]]++cap.toList).toArray,(w.alloc (.loop { state:=.ready,pending:=none,fn:=fn,tmps:=a.tmps,params:=ps,assign:=assign,body:=body,defers:=r0.defers })),run_enterLoop_inner hr0 _ _ _ _ _,?_,fun _ _=>trivial,?_,kV,?_⟩
     · have e1:∀ v:Value,Array.map a.eval #[Operand.const v]=#[v]:=fun v=>by simp [Act.eval]
       simp only [resolve,bf ha hf,Deferred.ofValue,e1]
       rfl
     · simp only [invoke];rw [show (first++#[Value.func (.yield w.heap.size) #[] #[]]++cap)=(first.toList++[Value.func (.yield w.heap.size) #[] #[]]++cap.toList).toArray from Array.ext' (by simp)];exact fd H2.1 _ _
     · refine mz (CallsIn.mono (H2.2 _ rfl) ?_);rintro e w3 ⟨v,rfl,⟨st,pend,hl3,hst,hA⟩,hs3⟩;refine ⟨pend,_,run_endLoop hl3 hst,?_⟩;have:=pR (P:=P) (r:=some l0) (Q:=Q) (a:=a) (w:=w3.putObj w.heap.size (.loop { state:=.exhausted,pending:=pend,fn:=fn,tmps:=a.tmps,params:=ps,assign:=assign,body:=body,defers:=r0.defers })) hA
        (fun e he=>hQ e _ _ _ he ha ⟨hs3.os,hs3.tape,hs3.output⟩ (fun _ _=>rfl) (fun hn=>by cases hn))
       cases pend <;> exact this
end
def nn (args:List Value) (n:Nat):Fr:=
 { s:=fun t=>match args[t]? with
    | some v=>some v
    | none=>some undef
   m:=[] }
def jH (P:Program) (n:Nat) (φ:Fr) (h:Heap):List ResultVar→(List Value→Prop)→Prop
 | [],K=>K []
 | .tmp t::rs,K=>rd n φ (.tmp t) fun v=>jH P n φ h rs fun vs=>K (v::vs)
 | .cell a T::rs,K=>rd n φ (.tmp a) fun v=>match v with
   | .pointer (some ad)=>pY P (loadVar T ad) h fun v=>dec P T v fun v=>jH P n φ h rs fun vs=>K (v::vs)
   | _=>False
def jJ (vs:List Value):Value:=
 match vs with
 | [v]=>v
 | vs=>.tuple vs.toArray
def lI:List Nat→Heap→(Heap→Prop)→Prop
 | [],h,K=>K h
 | d::ds,h,K=>h[d]? = some (.deferred (some []))∧lI ds (h.setIfInBounds d (.deferred none)) K
def rf (P:Program) (fn:Func) (ann:Nat→cR) (tys:Nat→List TypeId) (pl:Nat→Option ft) (args:List Value) (h:Heap) (Q:Value→Heap→Prop):Prop:=
 match fn.body with
 | none=>False
 | some c=>cond (decide (args.length≤fn.ntmps)) (uZ P fn.ntmps ann tys pl none c 0 (nn args fn.ntmps) h fun e φ h'=>match e with
   | .normal=>lI φ.m h' fun h'=>jH P fn.ntmps φ h' fn.results.toList fun vs=>Q (jJ vs) h'
   | .ret=>lI φ.m h' fun h'=>jH P fn.ntmps φ h' fn.results.toList fun vs=>Q (jJ vs) h'
   | _=>False) False
def sx (tmps:Array Value):ResultVar→Sem Value
 | .tmp t=>pure (tmps.getD t undef)
 | .cell a t=>do loadVar t (← asAddr (tmps.getD a undef))
theorem lw {P:Program} {n:Nat} {φ:Fr} {a:Act} (ha:FA base n φ a) {w:World}:∀ {rs:List ResultVar} {K:List Value→Prop},jH P n φ w.heap rs K→
  ∃ vs,(rs.mapM (sx a.tmps)).run P w=.ok vs w∧K vs
 | [],K,h=>⟨[],rfl,h⟩
 | .tmp t::rs,K,h=>by
   obtain ⟨v,hv,h⟩:=br h;obtain ⟨vs,hvs,h⟩:=lw ha h;have:a.tmps.getD t undef=v:=bf ha hv;exact ⟨v::vs,by simp only [List.mapM_cons,Sem.run_bind,sx,Sem.run_pure,Result.andThen_ok,this,hvs],h⟩
 | .cell ad t::rs,K,h=>by
   obtain ⟨v,hv,h⟩:=br h;split at h
   · obtain ⟨u,hu,h⟩:=lb h;obtain ⟨vs,hvs,h⟩:=lw ha (eP h);have:a.tmps.getD ad undef=_:=bf ha hv;refine ⟨u::vs,?_,h⟩;have e:(sx a.tmps (.cell ad t)).run P w=.ok u w:=by
      simp only [sx,this,asAddr,Sem.run_bind,Sem.run_pure,Result.andThen_ok,hu w rfl]
     simp only [List.mapM_cons,Sem.run_bind,e,Result.andThen_ok,hvs,Sem.run_pure]
   · exact h.elim
theorem im {P:Program} {fn:Func} {φ:Fr} {a:Act} {w:World} {Q:Value→Prop} (ha:FA base fn.ntmps φ a) (h:jH P fn.ntmps φ w.heap fn.results.toList fun vs=>Q (jJ vs)) :
  ∃ v,(results fn a.tmps).run P w=.ok v w∧Q v:=by
 obtain ⟨vs,hvs,h⟩:=lw ha h
 refine ⟨jJ vs,?_,h⟩
 have e:results fn a.tmps=(do
   let l ← fn.results.toList.mapM (sx a.tmps)
   pure (jJ l)):=by
  show (do
   let vs ← fn.results.mapM (sx a.tmps)
   pure (if h:vs.size=1 then vs[0] else .tuple vs))=_
  rw [Array.mapM_eq_mapM_toList];simp only [map_eq_pure_bind,bind_assoc,pure_bind];congr 1;funext l;congr 1
  match l with
  | []=>rfl
  | [v]=>rfl
  | v::u::r=>simp [jJ]
 rw [e]
 simp only [Sem.run_bind,hvs,Result.andThen_ok,Sem.run_pure]
theorem sU {P:Program} {fn:Func} {tmps:Array Value} {w0:World} {Q:Value→Heap→Prop} :
  ∀ {ds:List Nat} {w:World},(lI ds w.heap fun h'=>∀ w',w'.heap=h'→∃ v,(results fn tmps).run P w'=.ok v w'∧Q v w'.heap)→cV w0 w→
    LeavesInM Fence.wide 0 P fn tmps (fun e w'=>∃ v,e=.returned v∧Q v w'.heap∧cV w0 w') (ds.map fun d=>{ target:=.collected d,args:=#[] }) .returning w
 | [],w,h,hs=>by
   obtain ⟨v,hv,hq⟩:=h w rfl;exact ⟨v,hv,v,rfl,hq,hs⟩
 | d::ds,w,h,hs=>by
   refine ⟨by simp,.inl ⟨d,_,rfl,run_takeDeferred h.1,?_⟩⟩;exact sU (w:=w.putObj d (.deferred none)) h.2 ⟨hs.os,hs.tape,hs.output⟩
theorem pJ {K K':Heap→Prop} (hk:∀ h,K h→K' h):∀ {ds:List Nat} {h:Heap},lI ds h K→lI ds h K'
 | [],_,h=>hk _ h
 | _::_,_,h=>⟨h.1,pJ hk h.2⟩
theorem gk {P:Program} {f:FuncId} {fn:Func} {ann:Nat→cR} {tys:Nat→List TypeId} {pl:Nat→Option ft} {args:List Value} {h:Heap} {Q:Value→Heap→Prop}
  (hf:P.funcs[f]? = some fn) (hc:df P f=true) (H:rf P fn ann tys pl args h Q):aC P f args h Q:=by
 refine ⟨hc,fun w hw=>?_⟩
 subst hw
 unfold rf at H
 split at H
 · exact H.elim
 · rename_i c hb
   cases hlen:decide (args.length≤fn.ntmps) with
   | false=>rw [hlen] at H; exact H.elim
   | true=>
     rw [hlen] at H;have hlen':args.length≤fn.ntmps:=of_decide_eq_true hlen;refine callsIn_of_wp_marks hf hb trivial ?_;refine tv (base:=[]) c none 0 _ _ _ _ w _ H ?_ rfl ?_
     · refine ⟨rfl,by simp; omega,fun t v hv ht=>?_⟩;simp only [nn] at hv
       cases ht2:args[t]? with
       | some u=>
         rw [ht2] at hv;simp only [Option.some.injEq] at hv;subst hv;have hlt:t<args.length:=(aj.1 ht2).1;rw [Array.getElem?_append_left (by simpa using hlt)];simpa using ht2
       | none=>
         rw [ht2] at hv;simp only [Option.some.injEq] at hv;subst hv;have hge:args.length≤t:=List.getElem?_eq_none_iff.1 ht2;rw [Array.getElem?_append_right (by simpa using hge)];rw [Array.getElem?_replicate,al (by simp; omega)]
     · intro e φ' a' w' hq ha' hs _ _;have fin:(lI φ'.m w'.heap fun h'=>jH P fn.ntmps φ' h' fn.results.toList fun vs=>Q (jJ vs) h')→
        LeavesInM Fence.wide 0 P fn a'.tmps (fun e w'=>∃ v,e=.returned v∧Q v w'.heap∧cV w w') a'.defers .returning w':=fun hq=>by
        rw [ha'.defers,append_nil];refine sU (pJ (fun h' hr w2 hw2=>?_) hq) hs;subst hw2;exact im ha' hr
       cases e <;> simp only [] at hq <;> first | exact hq.elim | exact fin hq
def Ld (h:Heap) (a:Addr) (K:Value→Prop):Prop:=∃ v,cz h a=some v∧K v
def DI (k:IntKind) (v:Value) (K:Int→Prop):Prop:=∃ x:Int,v=.int k x∧K x
def DB (v:Value) (K:Bool→Prop):Prop:=∃ x:Bool,v=.bool x∧K x
def DS (v:Value) (K:ByteArray→Prop):Prop:=∃ x:ByteArray,v=.string x∧K x
def DP (v:Value) (K:Option Addr→Prop):Prop:=∃ x:Option Addr,v=.pointer x∧K x
def DM (v:Value) (K:Option Nat→Prop):Prop:=∃ x:Option Nat,v=.map x∧K x
def aT (v:Value) (K:Option Addr→Nat→Nat→Prop):Prop:=∃ (p:Option Addr) (l c:Nat),v=.slice p l c∧K p l c
def Al (h:Heap) (o:Obj) (K:Nat→Heap→Prop):Prop:=K h.size (h.push o)
def bz (h:Heap) (a:Addr) (v:Value) (K:Heap→Prop):Prop:=(∃ u,cz h a=some u)∧gW h a=false∧K (By h a v)
abbrev QP := Value → Heap → Prop
abbrev SV (u : Value) : Prop := aG (some u) u
def nA : Nat → cR := fun _ => bi
def nT : Nat → List TypeId := fun _ => []
def nP : Nat → Option ft := fun _ => none
structure K0 (P : Program) (F : Heap → QP → Prop) (k : FuncId) (g : List Value) : Prop where
 ap : ∀ {h : Heap} {Q : QP}, F h Q → aC P k (g) h Q
structure K1 {α0 : Type} (P : Program) (F : α0 → Heap → QP → Prop) (k : FuncId) (g : α0 → List Value) : Prop where
 ap : ∀ {a0 : α0} {h : Heap} {Q : QP}, F a0 h Q → aC P k (g a0) h Q
structure K2 {α0 α1 : Type} (P : Program) (F : α0 → α1 → Heap → QP → Prop) (k : FuncId) (g : α0 → α1 → List Value) : Prop where
 ap : ∀ {a0 : α0} {a1 : α1} {h : Heap} {Q : QP}, F a0 a1 h Q → aC P k (g a0 a1) h Q
structure K3 {α0 α1 α2 : Type} (P : Program) (F : α0 → α1 → α2 → Heap → QP → Prop) (k : FuncId) (g : α0 → α1 → α2 → List Value) : Prop where
 ap : ∀ {a0 : α0} {a1 : α1} {a2 : α2} {h : Heap} {Q : QP}, F a0 a1 a2 h Q → aC P k (g a0 a1 a2) h Q
structure K4 {α0 α1 α2 α3 : Type} (P : Program) (F : α0 → α1 → α2 → α3 → Heap → QP → Prop) (k : FuncId) (g : α0 → α1 → α2 → α3 → List Value) : Prop where
 ap : ∀ {a0 : α0} {a1 : α1} {a2 : α2} {a3 : α3} {h : Heap} {Q : QP}, F a0 a1 a2 a3 h Q → aC P k (g a0 a1 a2 a3) h Q
structure K5 {α0 α1 α2 α3 α4 : Type} (P : Program) (F : α0 → α1 → α2 → α3 → α4 → Heap → QP → Prop) (k : FuncId) (g : α0 → α1 → α2 → α3 → α4 → List Value) : Prop where
 ap : ∀ {a0 : α0} {a1 : α1} {a2 : α2} {a3 : α3} {a4 : α4} {h : Heap} {Q : QP}, F a0 a1 a2 a3 a4 h Q → aC P k (g a0 a1 a2 a3 a4) h Q
structure K6 {α0 α1 α2 α3 α4 α5 : Type} (P : Program) (F : α0 → α1 → α2 → α3 → α4 → α5 → Heap → QP → Prop) (k : FuncId) (g : α0 → α1 → α2 → α3 → α4 → α5 → List Value) : Prop where
 ap : ∀ {a0 : α0} {a1 : α1} {a2 : α2} {a3 : α3} {a4 : α4} {a5 : α5} {h : Heap} {Q : QP}, F a0 a1 a2 a3 a4 a5 h Q → aC P k (g a0 a1 a2 a3 a4 a5) h Q
structure K7 {α0 α1 α2 α3 α4 α5 α6 : Type} (P : Program) (F : α0 → α1 → α2 → α3 → α4 → α5 → α6 → Heap → QP → Prop) (k : FuncId) (g : α0 → α1 → α2 → α3 → α4 → α5 → α6 → List Value) : Prop where
 ap : ∀ {a0 : α0} {a1 : α1} {a2 : α2} {a3 : α3} {a4 : α4} {a5 : α5} {a6 : α6} {h : Heap} {Q : QP}, F a0 a1 a2 a3 a4 a5 a6 h Q → aC P k (g a0 a1 a2 a3 a4 a5 a6) h Q
structure EL {α0 α1 α2 α3 α4 α5 α6 α7 α8 α9 : Type} (P : Program) (F : α0 → α1 → α2 → α3 → α4 → α5 → α6 → α7 → α8 → α9 → Heap → QP → Prop) (k : FuncId) (g : α0 → α1 → α2 → α3 → α4 → α5 → α6 → α7 → α8 → α9 → List Value) : Prop where
 ap : ∀ {a0 : α0} {a1 : α1} {a2 : α2} {a3 : α3} {a4 : α4} {a5 : α5} {a6 : α6} {a7 : α7} {a8 : α8} {a9 : α9} {h : Heap} {Q : QP}, F a0 a1 a2 a3 a4 a5 a6 a7 a8 a9 h Q → aC P k (g a0 a1 a2 a3 a4 a5 a6 a7 a8 a9) h Q
theorem o0 {P : Program} {f : FuncId} {fn : Func} {F : Heap → QP → Prop} {g : List Value} (ann : Nat → cR) (tys : Nat → List TypeId) (pl : Nat → Option ft) (hf : P.funcs[f]? = some fn) (hc : df P f = true) (e : (fun h Q => rf P fn ann tys pl (g) h Q) = F) : K0 P F f g := ⟨fun H => gk hf hc (by subst e; exact H)⟩
theorem o1 {P : Program} {f : FuncId} {fn : Func} {α0 : Type} {F : α0 → Heap → QP → Prop} {g : α0 → List Value} (ann : Nat → cR) (tys : Nat → List TypeId) (pl : Nat → Option ft) (hf : P.funcs[f]? = some fn) (hc : df P f = true) (e : (fun a0 h Q => rf P fn ann tys pl (g a0) h Q) = F) : K1 P F f g := ⟨fun H => gk hf hc (by subst e; exact H)⟩
theorem o2 {P : Program} {f : FuncId} {fn : Func} {α0 α1 : Type} {F : α0 → α1 → Heap → QP → Prop} {g : α0 → α1 → List Value} (ann : Nat → cR) (tys : Nat → List TypeId) (pl : Nat → Option ft) (hf : P.funcs[f]? = some fn) (hc : df P f = true) (e : (fun a0 a1 h Q => rf P fn ann tys pl (g a0 a1) h Q) = F) : K2 P F f g := ⟨fun H => gk hf hc (by subst e; exact H)⟩
theorem o3 {P : Program} {f : FuncId} {fn : Func} {α0 α1 α2 : Type} {F : α0 → α1 → α2 → Heap → QP → Prop} {g : α0 → α1 → α2 → List Value} (ann : Nat → cR) (tys : Nat → List TypeId) (pl : Nat → Option ft) (hf : P.funcs[f]? = some fn) (hc : df P f = true) (e : (fun a0 a1 a2 h Q => rf P fn ann tys pl (g a0 a1 a2) h Q) = F) : K3 P F f g := ⟨fun H => gk hf hc (by subst e; exact H)⟩
theorem o4 {P : Program} {f : FuncId} {fn : Func} {α0 α1 α2 α3 : Type} {F : α0 → α1 → α2 → α3 → Heap → QP → Prop} {g : α0 → α1 → α2 → α3 → List Value} (ann : Nat → cR) (tys : Nat → List TypeId) (pl : Nat → Option ft) (hf : P.funcs[f]? = some fn) (hc : df P f = true) (e : (fun a0 a1 a2 a3 h Q => rf P fn ann tys pl (g a0 a1 a2 a3) h Q) = F) : K4 P F f g := ⟨fun H => gk hf hc (by subst e; exact H)⟩
theorem o5 {P : Program} {f : FuncId} {fn : Func} {α0 α1 α2 α3 α4 : Type} {F : α0 → α1 → α2 → α3 → α4 → Heap → QP → Prop} {g : α0 → α1 → α2 → α3 → α4 → List Value} (ann : Nat → cR) (tys : Nat → List TypeId) (pl : Nat → Option ft) (hf : P.funcs[f]? = some fn) (hc : df P f = true) (e : (fun a0 a1 a2 a3 a4 h Q => rf P fn ann tys pl (g a0 a1 a2 a3 a4) h Q) = F) : K5 P F f g := ⟨fun H => gk hf hc (by subst e; exact H)⟩
theorem o6 {P : Program} {f : FuncId} {fn : Func} {α0 α1 α2 α3 α4 α5 : Type} {F : α0 → α1 → α2 → α3 → α4 → α5 → Heap → QP → Prop} {g : α0 → α1 → α2 → α3 → α4 → α5 → List Value} (ann : Nat → cR) (tys : Nat → List TypeId) (pl : Nat → Option ft) (hf : P.funcs[f]? = some fn) (hc : df P f = true) (e : (fun a0 a1 a2 a3 a4 a5 h Q => rf P fn ann tys pl (g a0 a1 a2 a3 a4 a5) h Q) = F) : K6 P F f g := ⟨fun H => gk hf hc (by subst e; exact H)⟩
theorem o7 {P : Program} {f : FuncId} {fn : Func} {α0 α1 α2 α3 α4 α5 α6 : Type} {F : α0 → α1 → α2 → α3 → α4 → α5 → α6 → Heap → QP → Prop} {g : α0 → α1 → α2 → α3 → α4 → α5 → α6 → List Value} (ann : Nat → cR) (tys : Nat → List TypeId) (pl : Nat → Option ft) (hf : P.funcs[f]? = some fn) (hc : df P f = true) (e : (fun a0 a1 a2 a3 a4 a5 a6 h Q => rf P fn ann tys pl (g a0 a1 a2 a3 a4 a5 a6) h Q) = F) : K7 P F f g := ⟨fun H => gk hf hc (by subst e; exact H)⟩
theorem Mj {P : Program} {f : FuncId} {fn : Func} {α0 α1 α2 α3 α4 α5 α6 α7 α8 α9 : Type} {F : α0 → α1 → α2 → α3 → α4 → α5 → α6 → α7 → α8 → α9 → Heap → QP → Prop} {g : α0 → α1 → α2 → α3 → α4 → α5 → α6 → α7 → α8 → α9 → List Value} (ann : Nat → cR) (tys : Nat → List TypeId) (pl : Nat → Option ft) (hf : P.funcs[f]? = some fn) (hc : df P f = true) (e : (fun a0 a1 a2 a3 a4 a5 a6 a7 a8 a9 h Q => rf P fn ann tys pl (g a0 a1 a2 a3 a4 a5 a6 a7 a8 a9) h Q) = F) : EL P F f g := ⟨fun H => gk hf hc (by subst e; exact H)⟩
end Go.Proofs.YtmemjbiijclbdaaGreat
