/- Functions that defer one closure at their start,and end without a panic. -/
import Derived.Test.YtmemjbiijclbdaaGreatMpFwA
namespace Go.Proofs.YtmemjbiijclbdaaGreat
open Go Go.RowKit
set_option linter.unusedVariables false
set_option linter.unusedSimpArgs false
variable {base:List Deferred}
def yS (ops:Array Oper):Option (Tmp×FuncId×List Operand):=
 match ops.toList with
 | [o1,o2]=>match o1.dst,o1.op,o1.guard,o2.dst,o2.op,o2.guard with
   | some t,.makeFunc (.func g) first caps,none,none,.defer { callee:=.value (.tmp t'),args,.. },none=>cond (Nat.beq t t'&&Nat.beq first.size 0&&Nat.beq args.size 0) (some (t,g,caps.toList)) none
   | _,_,_,_,_,_=>none
 | _=>none
def j3 (P:Program) (f:FuncId) (args:List Value) (h:Heap) (K:Heap→Prop):Prop:=
 df P f=true∧∀ w:World,w.heap=h→CallsDIn Fence.wide 0 P f args.toArray .returning w fun e u' w'=>(∃ v,e=.returned v)∧u'=.returning∧K w'.heap∧cV w w'
theorem q5 {P:Program} {fn:Func} {tmps:Array Value} {w0:World} {Q:Value→Heap→Prop} {g:FuncId} {vs:List Value} :
  ∀ {ds:List Nat} {w:World},(lI ds w.heap fun h3=>j3 P g vs h3 fun h4=>∀ w',w'.heap=h4→∃ v,(results fn tmps).run P w'=.ok v w'∧Q v w'.heap)→cV w0 w→
    LeavesInM Fence.wide 0 P fn tmps (fun e w'=>∃ v,e=.returned v∧Q v w'.heap∧cV w0 w') (ds.map (fun d=>{ target:=.collected d,args:=#[] })++[{ target:=.fn (.func g) vs.toArray,args:=#[] }]) .returning w
 | [],w,h,hs=>by
   obtain ⟨hc,h⟩:=h;refine ⟨by simp,.inr ⟨(fun hh=>by cases hh),.func g,vs.toArray,g,vs.toArray,rfl,?_,fun _ _=>trivial,?_⟩⟩
   · simp only [invoke];rw [show (#[]++vs.toArray:Array Value)=vs.toArray from by simp];exact fd hc _ _
   · refine (h w rfl).mono ?_;rintro e u' w' ⟨⟨v,rfl⟩,rfl,hk,hs2⟩;obtain ⟨v,hv,hq⟩:=hk w' rfl;exact ⟨v,hv,v,rfl,hq,hs.trans hs2⟩
 | d::ds,w,h,hs=>by
   refine ⟨by simp,.inl ⟨d,_,rfl,run_takeDeferred h.1,?_⟩⟩;exact q5 (w:=w.putObj d (.deferred none)) h.2 ⟨hs.os,hs.tape,hs.output⟩
theorem j3.mono {P:Program} {f:FuncId} {args:List Value} {h:Heap} {K K':Heap→Prop} (H:j3 P f args h K) (hk:∀ h,K h→K' h):j3 P f args h K':=
 ⟨H.1,fun w hw=>(H.2 w hw).mono fun e u' w' ⟨a,b,c,d⟩=>⟨a,b,hk _ c,d⟩⟩
end Go.Proofs.YtmemjbiijclbdaaGreat
