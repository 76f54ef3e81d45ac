/- Calls that may panic: the transformer of code once more (genX.py,out of Fw3,FwD,Fw5,Fw6),with what holds where a panic leaves. -/
import Derived.Test.YtmemjbiijclbdaaGreatMpFwE
namespace Go.Proofs.YtmemjbiijclbdaaGreat
open List (getElem?_of_mem map_nil nil_append getElem_mem)
open Go Go.RowKit
set_option linter.unusedVariables false
set_option linter.unusedSimpArgs false
variable {base:List Deferred}
def fi (P:Program) (f:FuncId) (args:List Value) (h:Heap) (Q X:Value→Heap→Prop):Prop:=
 df P f=true∧∀ w:World,w.heap=h→CallsIn Fence.wide 0 P f args.toArray w (fun e w'=>(∃ v,e=.returned v∧Q v w'.heap∧cV w w')∨(∃ x,e=.panicked [{ v:=x,recovered:=false }]∧X x w'.heap∧cV w w'))
def rQ (P:Program) (v:Value) (args:List Value) (h:Heap) (Q X:Value→Heap→Prop):Prop:=
 match v with
 | .func (.func f) first cap=>fi P f (first.toList++args++cap.toList) h Q X
 | _=>False
theorem fi.mono {P:Program} {f:FuncId} {args:List Value} {h:Heap} {Q Q' X X':Value→Heap→Prop} (H:fi P f args h Q X) (hq:∀ v h',Q v h'→Q' v h') (hx:∀ v h',X v h'→X' v h'):fi P f args h Q' X':=
 ⟨H.1,fun w hw=>CallsIn.mono (H.2 w hw) fun e w' hh=>by
  rcases hh with ⟨v,he,q,s⟩ | ⟨v,he,q,s⟩
  · exact .inl ⟨v,he,hq _ _ q,s⟩
  · exact .inr ⟨v,he,hx _ _ q,s⟩⟩
theorem aC.x {P:Program} {f:FuncId} {args:List Value} {h:Heap} {Q X:Value→Heap→Prop} (H:aC P f args h Q):fi P f args h Q X:=
 ⟨H.1,fun w hw=>CallsIn.mono (H.2 w hw) fun e w' hh=>.inl hh⟩
theorem tV {P:Program} {f:FuncId} {first cap:Array Value} {args:List Value} {h:Heap} {Q X:Value→Heap→Prop} (H:fi P f (first.toList++args++cap.toList) h Q X):rQ P (.func (.func f) first cap) args h Q X:=H
def CX (P:Program) (f:FuncId) (args:List Value) (h:Heap) (X Q:Value→Heap→Prop):Prop:=fi P f args h Q X
def Nw (P:Program) (v:Value) (args:List Value) (h:Heap) (X Q:Value→Heap→Prop):Prop:=rQ P v args h Q X
def GS (P:Program) (n:Nat) (et:List TypeId) (X:Value→Heap→Prop) (o:Oper) (φ:Fr) (h:Heap) (K:Value→Heap→Prop):Prop:=
 match o.op with
 | .call { callee:=.value f,args,.. }=>rd n φ f fun vf=>zx n φ args.toList fun vs=>rQ P vf vs h (fun v h'=>dec P o.type v fun v=>K v h') X
 | .panic x=>rd n φ x fun v=>match v with
   | .iface T u=>X (.iface T u) h
   | _=>False
 | _=>LG P n et o φ h K
def ur (P:Program) (n:Nat) (et:List TypeId) (X:Value→Heap→Prop) (o:Oper) (φ:Fr) (h:Heap) (K:Value→Heap→Prop):Prop:=
 cond (gT o.op) (cond (Gp P o.op) (JI P n o φ h fun v=>K v h) (GS P n et X o φ h K)) False
section
variable {P:Program} {n:Nat} {et:List TypeId} {X:Value→Heap→Prop} {o:Oper} {φ:Fr} {h:Heap} {a:Act} {w:World} {r:Option Nat} {next:Act→World→Prop} {Q:Exit→Act→World→Prop}
theorem zE {P:Program} {vf:Value} {vs:List Value} {h:Heap} {R:Value→Heap→Prop} (H:rQ P vf vs h R X) (hw:w.heap=h) (hs:gT o.op=true)
  (hr:execOp a.eval o=(do let d ← Deferred.ofValue vf vs.toArray; invoke d.target d.args)) (hn:∀ v w',R v w'.heap→cV w w'→next (a.put o.dst v) w')
  (hX:∀ x w',X x w'.heap→cV w w'→Q (.panic [{ v:=x,recovered:=false }]) a w'):o.wpIn (FW r) 0 P a w next Q:=by
 refine ⟨fun _ _=>trivial,?_⟩
 rw [jf hs,hr]
 unfold rQ at H
 split at H
 · rename_i f first cap
   have h1:(do let d ← Deferred.ofValue (.func (.func f) first cap) vs.toArray; invoke d.target d.args).run P w=.ok (.enter f (first.toList++vs++cap.toList).toArray) w:=by
    simp only [Deferred.ofValue,Sem.run_bind,Sem.run_pure,Result.andThen_ok,invoke];rw [show (first++vs.toArray++cap)=(first.toList++vs++cap.toList).toArray from Array.ext' (by simp)];exact fd H.1 _ _
   rw [h1];refine ⟨kV,mz (CallsIn.mono (H.2 w hw) fun e w' hh=>?_)⟩
   rcases hh with ⟨v,he,q,s⟩ | ⟨v,he,q,s⟩
   · subst he;exact hn v w' q s
   · subst he;exact hX v w' q s
 · exact H.elim
theorem xx {K:Value→Heap→Prop} (hs:gT o.op=true) (H:GS P n et X o φ h K) (ha:FA base n φ a) (hw:w.heap=h)
  (hn:∀ v w',K v w'.heap→cV w w'→next (a.put o.dst v) w') (hX:∀ x w',X x w'.heap→cV w w'→Q (.panic [{ v:=x,recovered:=false }]) a w'):o.wpIn (FW r) 0 P a w next Q:=by
 have vals:∀ {xs:Array Operand} {vs:List Value},(∀ {base:List Deferred} (a:Act),FA base n φ a→xs.toList.map a.eval=vs)→xs.map a.eval=vs.toArray:=fun hvs=>by
  rw [← hvs a ha]; apply Array.ext'; simp
 unfold GS at H
 split at H
 · rename_i f args _ hop;obtain ⟨vf,hf,H1⟩:=br H;obtain ⟨vs,hvs,H2⟩:=eo H1;refine zE H2 hw hs ?_ (fun v w' q s=>hn v w' (eP q) s) hX;simp only [execOp,hop,resolve,bf ha hf,vals hvs]
 · rename_i x hop;obtain ⟨v,hv,H1⟩:=br H;split at H1
   · rename_i T u;refine ⟨fun _ _=>trivial,?_⟩;rw [jf hs];have e:(execOp a.eval o).run P w=.halt (.panic (.iface T u)) w:=by
      simp only [execOp,hop,bf ha hv]
      rfl
     rw [e];subst hw;exact hX _ _ H1 (.refl w)
   · exact H1.elim
 · exact sJ hs H ha hw hn
theorem kP {K:Value→Heap→Prop} (H:ur P n et X o φ h K) (ha:FA base n φ a) (hw:w.heap=h)
  (hn:∀ v w',K v w'.heap→cV w w'→next (a.put o.dst v) w') (hX:∀ x w',X x w'.heap→cV w w'→Q (.panic [{ v:=x,recovered:=false }]) a w'):o.wpIn (FW r) 0 P a w next Q:=by
 unfold ur at H
 cases hs:gT o.op with
 | false=>rw [hs] at H; exact H.elim
 | true=>
   rw [hs] at H
   cases hq:Gp P o.op with
   | true=>
     rw [hq] at H;obtain ⟨v,hv,H⟩:=mn hq H;exact du hs (hv a w ha hw) (hn v w (hw▸H) (.refl w))
   | false=>
     rw [hq] at H;exact xx hs H ha hw hn hX
end
def rz (m:List Nat):Fr:=⟨fun _=>none,m⟩
theorem wD {n:Nat} {φ:Fr} {a:Act} {m:List Nat} (h:FA base n φ a) (hm:φ.m=m):FA base n (rz m) a:=⟨by rw [h.defers,hm]; rfl,h.size,fun t v hv=>by cases hv⟩
def lh (P:Program) (n:Nat) (et:List TypeId) (X:Value→Heap→Prop) (ops:Array Oper):List Oper→Fr→Heap→(Fr→Heap→Prop)→Prop
 | [],φ,h,K=>K φ h
 | o::rest,φ,h,K=>
   match o.guard with
   | none=>ur P n et X o φ h fun v h'=>lh P n et X ops rest (φ.put o.dst v) h' K
   | some (j,want)=>
     match pN ops j with
     | none=>False
     | some d=>
       match ev n φ (.tmp d) with
       | some (.bool t)=>cond t
         (cond want (ur P n et X o (φ.put (some d) (.bool true)) h fun v h'=>lh P n et X ops rest ((φ.put (some d) (.bool true)).put o.dst v) h' K)
          (lh P n et X ops rest ((φ.put (some d) (.bool true)).put o.dst undef) h K))
         (cond want (lh P n et X ops rest ((φ.put (some d) (.bool false)).put o.dst undef) h K)
          (ur P n et X o (φ.put (some d) (.bool false)) h fun v h'=>lh P n et X ops rest ((φ.put (some d) (.bool false)).put o.dst v) h' K))
       | some (.tuple _)=>lh P n et X ops rest (φ.put o.dst undef) h K
       | _=>False
theorem vL {P:Program} {n:Nat} {et:List TypeId} {X:Value→Heap→Prop} {ops:Array Oper} {r:Option Nat} {Q:Exit→Act→World→Prop} {K:Fr→Heap→Prop} {w0:World}
  {m:Nat} {a0:Act} {m0:List Nat} (hK:∀ φ a w,K φ w.heap→FA base n φ a→cV w0 w→cq m a0 a→φ.m=m0→Q .normal a w)
  (hX:∀ x a w,X x w.heap→FA base n (rz m0) a→cV w0 w→cq m a0 a→Q (.panic [{ v:=x,recovered:=false }]) a w) :
  ∀ (l:List Oper) (φ:Fr) (h:Heap) (a:Act) (w:World),(∀ o∈l,∀ d,o.dst=some d→aO m d=true)→lh P n et X ops l φ h K→FA base n φ a→w.heap=h→cV w0 w→cq m a0 a→φ.m=m0→wpListIn (FW r) 0 P ops Q l a w:=by
 intro l
 induction l with
 | nil=>intro φ h a w _ H ha hw hs hag hm0; subst hw; exact hK φ a w H ha hs hag hm0
 | cons o rest ih=>
   intro φ h a w hm H ha hw hs hag hm0;have hmo:=hm o (by simp);have hmr:∀ o∈rest,∀ d,o.dst=some d→aO m d=true:=fun o ho=>hm o (by simp [ho]);have run:∀ φ',φ'.m=m0→FA base n φ' a→(ur P n et X o φ' h fun v h'=>lh P n et X ops rest (φ'.put o.dst v) h' K)→o.wpIn (FW r) 0 P a w (wpListIn (FW r) 0 P ops Q rest) Q:=fun φ' hm' ha' H'=>
    kP H' ha' hw (fun v w' q s=>ih _ _ _ _ hmr q (ha'.put _ _) rfl (hs.trans s) (hag.put hmo _) ((Fr.put_m _ _ _).trans hm')) (fun x w' q s=>hX x a w' q (wD ha' hm') (hs.trans s) hag)
   have pass:∀ φ',φ'.m=m0→FA base n φ' a→(lh P n et X ops rest (φ'.put o.dst undef) h K)→wpListIn (FW r) 0 P ops Q rest (a.put o.dst undef) w:=fun φ' hm' ha' H'=>
    ih _ _ _ _ hmr H' (ha'.put _ _) hw hs (hag.put hmo _) ((Fr.put_m _ _ _).trans hm')
   unfold lh at H;unfold wpListIn;split at H
   · rename_i hg;rw [al (by simp [Region.wanted,hg])];exact run φ hm0 ha H
   · rename_i j want hg;split at H
     · exact H.elim
     · rename_i d hd;split at H
       · rename_i t ht;have hw1:=eL hg hd (iN ha ht);simp only [] at hw1;rw [hw1];have ha':=ha.again ht;cases t <;> cases want <;> simp only [ab,aa] at H
         · exact al rfl▸run _ ((Fr.put_m _ _ _).trans hm0) ha' H
         · rw [ak (by simp)]; exact ⟨fun _ _=>trivial,pass _ ((Fr.put_m _ _ _).trans hm0) ha' H⟩
         · rw [ak (by simp)]; exact ⟨fun _ _=>trivial,pass _ ((Fr.put_m _ _ _).trans hm0) ha' H⟩
         · exact al rfl▸run _ ((Fr.put_m _ _ _).trans hm0) ha' H
       · rename_i vs ht;have hw1:=eL hg hd (iN ha ht);simp only [] at hw1;rw [hw1,ak (by simp)];exact ⟨fun _ _=>trivial,pass φ hm0 ha H⟩
       · exact H.elim
theorem rV {P:Program} {n:Nat} {et:List TypeId} {X:Value→Heap→Prop} {ops:Array Oper} {id:Nat} {r:Option Nat} {Q:Exit→Act→World→Prop} {K:Fr→Heap→Prop} {φ:Fr} {h:Heap} {a:Act} {w:World}
  (H:lh P n et X ops ops.toList φ h K) (ha:FA base n φ a) (hw:w.heap=h) (hK:∀ φ' a' w',K φ' w'.heap→FA base n φ' a'→cV w w'→cq (cy ops.toList) a a'→φ'.m=φ.m→Q .normal a' w')
  (hX:∀ x a' w',X x w'.heap→FA base n (rz φ.m) a'→cV w w'→cq (cy ops.toList) a a'→Q (.panic [{ v:=x,recovered:=false }]) a' w'):(Code.region id ops false).wpIn (FW r) 0 P Q a w:=
 wpIn_region_list (vL (w0:=w) (a0:=a) hK hX ops.toList φ h a w (fun o ho d hd=>gN ho hd) H ha hw (.refl w) (.refl _ a) rfl)
def L4 (P:Program) (n:Nat) (et:List TypeId) (X:Value→Heap→Prop) (ops:Array Oper) (p:ft) (i:Nat) (φ0:Fr) (o:Oper) (φ:Fr) (h:Heap) (K:Fr→Value→Heap→Prop):Prop:=
 match o.guard with
 | none=>ur P n et X o (over p ops i φ0 (eJ ops (p.befOf i) φ)) h fun v h'=>K φ v h'
 | some (j,want)=>
   match pN ops j with
   | none=>False
   | some d=>
     match ev n (eJ ops (p.befOf i) φ) (.tmp d) with
     | some (.bool t)=>cond t
       (cond want (ur P n et X o (over p ops i φ0 (eJ ops (p.befOf i) (φ.put (some d) (.bool true)))) h fun v h'=>K (φ.put (some d) (.bool true)) v h') (K (φ.put (some d) (.bool true)) undef h))
       (cond want (K (φ.put (some d) (.bool false)) undef h) (ur P n et X o (over p ops i φ0 (eJ ops (p.befOf i) (φ.put (some d) (.bool false)))) h fun v h'=>K (φ.put (some d) (.bool false)) v h'))
     | some (.tuple _)=>K φ undef h
     | _=>False
def Ck (P:Program) (n:Nat) (et:List TypeId) (X:Value→Heap→Prop) (ops:Array Oper) (p:ft) (φ0:Fr):(fuel:Nat)→(past:Nat)→Fr→Heap→(Fr→Heap→Prop)→Prop
 | 0,_,_,_,_=>False
 | fuel+1,past,φ,h,K=>
   match lD p past ops.size 0 with
   | some i=>match ops[i]? with
     | some o=>gq P n ops p i φ0 o φ h fun φ' v=>Ck P n et X ops p φ0 fuel (Nat.lor past (2^i)) (φ'.put o.dst v) h K
     | none=>False
   | none=>bif Nat.beq past (2^ops.size - 1) then K φ h else
     yU (sL p past ops.size 0) fun i=>match ops[i]? with
      | some o=>L4 P n et X ops p i φ0 o φ h fun φ' v h'=>again P n ops p φ0 past (p.befOf i) (φ'.put o.dst v) h' ops.size 0 (Ck P n et X ops p φ0 fuel (Nat.lor past (2^i)) (φ'.put o.dst v) h' K)
      | none=>False
section
variable {P:Program} {n:Nat} {et:List TypeId} {X:Value→Heap→Prop} {ops:Array Oper} {p:ft}
theorem zP {i:Nat} {φ0:Fr} {o:Oper} {φ:Fr} {h:Heap} {K:Fr→Value→Heap→Prop} {a:Act} {w:World} {next:Act→World→Prop} {Q:Exit→Act→World→Prop} (hi:ops[i]? = some o)
  (H:L4 P n et X ops p i φ0 o φ h K) (ha:FA base n (over p ops i φ0 (eJ ops (p.befOf i) φ)) a) (hw:w.heap=h) (hn:∀ v w',K φ v w'.heap→cV w w'→next (a.put o.dst v) w') (hX:∀ x w',X x w'.heap→cV w w'→Q (.panic [{ v:=x,recovered:=false }]) a w'):wpOpIn (FW none) 0 P ops Q i next a w:=by
 unfold wpOpIn
 simp only [hi]
 unfold L4 at H
 split at H
 · rename_i hg;rw [al (by simp [Region.wanted,hg])];exact kP H ha hw hn hX
 · rename_i j want hg;split at H
   · exact H.elim
   · rename_i d hd;split at H
     · rename_i t ht;have hs:=(gO (uG ht)).1;have wt:Region.wanted o (yielded ops a.tmps)=(t==want):=eL hg hd (iN (ml ha) ht);rw [wt];subst hw;cases t <;> cases want <;> simp only [ab,aa,qJ hs] at H
       · exact al rfl▸kP H ha rfl hn hX
       · rw [ak (by simp)]; exact ⟨fun _ _=>trivial,hn _ _ H (.refl w)⟩
       · rw [ak (by simp)]; exact ⟨fun _ _=>trivial,hn _ _ H (.refl w)⟩
       · exact al rfl▸kP H ha rfl hn hX
     · rename_i vs ht;have wt:=eL hg hd (iN (ml ha) ht);simp only [] at wt;rw [wt,ak (by simp)];subst hw;exact ⟨fun _ _=>trivial,hn _ _ H (.refl w)⟩
     · exact H.elim
end
section
variable {P:Program} {n:Nat} {et:List TypeId} {X:Value→Heap→Prop} {ops:Array Oper} {p:ft} {φ0:Fr} {m0:List Nat} {w0:World} {a0:Act}
theorem oN (hp:gF p ops=true) {h:Heap} {D:Nat} {a:Act} {w:World} {K:Fr→Heap→Prop}:∀ (fuel past:Nat) (φ:Fr),Gs base P n ops p φ0 m0 w0 a0 past φ h D a w→Ck P n et X ops p φ0 fuel past φ h K→
  ∃ fuel past φ,Gs base P n ops p φ0 m0 w0 a0 past φ h D a w∧lD p past ops.size 0=none∧Ck P n et X ops p φ0 fuel past φ h K
 | 0,_,_,_,H=>H.elim
 | fuel+1,past,φ,I,H=>by
   cases hq:lD p past ops.size 0 with
   | none=>exact ⟨fuel+1,past,φ,I,hq,H⟩
   | some i=>
     unfold Ck at H;rw [hq] at H;simp only [] at H;obtain ⟨hlt,hnp,hne,hsub⟩:=ni _ _ hq;rw [Nat.zero_add] at hlt
     cases ho:ops[i]? with
     | none=>rw [ho] at H; exact H.elim
     | some o=>
       rw [ho] at H;obtain ⟨hbef,hon,hnc⟩:=io hp ho;obtain ⟨v,H2,hy⟩:=n7 H (hnc.1 hne);have hsub':=nI.1 hsub;have hnD:aO D i=false:=by
        cases hb:aO D i with
        | false=>rfl
        | true=>rw [I.sub i hb] at hnp; cases hnp
       have keep:∀ j,(∀ k,aO (p.befOf j) k=true→aO past k=true)→eJ ops (p.befOf j) (φ.put o.dst v)=eJ ops (p.befOf j) φ:=fun j hj=>by
        refine kr (cJ hp) ho ?_ φ v
        cases hb:aO (p.befOf j) i with
        | false=>rfl
        | true=>rw [hj i hb] at hnp; cases hnp
       refine oN hp fuel _ _ ⟨I.closed,fun j hj=>aM.2 (.inl (I.sub j hj)),fun j hj he=>?_,fun j hj=>?_,fun j hj k hk=>?_,fun j o' hj he hD ho'=>?_,I.inits,?_,I.heap,I.same,I.agree,?_⟩ H2
       · rcases aM.1 hj with hj | rfl
         · exact I.effs j hj he
         · rw [hne] at he; cases he
       · rcases aM.1 hj with hj | rfl
         · exact I.lt j hj
         · exact hlt
       · refine aM.2 (.inl ?_)
         rcases aM.1 hj with hj | rfl
         · exact I.pclosed j hj k hk
         · exact hsub' k hk
       · rcases aM.1 hj with hj | rfl
         · obtain ⟨u,hu,hyq⟩:=I.facts j o' hj he hD ho';have hij:i≠j:=fun e=>by subst e; rw [hj] at hnp; cases hnp
           refine ⟨u,fun d hd=>by rw [sD hp ho ho' hij φ v hd]; exact hu d hd,?_⟩;rw [keep j (I.pclosed j hj)];exact hyq
         · have:o'=o:=by rw [ho] at ho'; simpa using ho'.symm
           subst this;refine ⟨v,fun d hd=>nR hd,?_⟩;rw [keep j hsub'];exact hy
       · rw [kr (cJ hp) ho hnD φ v];exact I.fa
       · rw [Fr.put_m]; exact I.marks
theorem Hj (hp:gF p ops=true) {K:Fr→Heap→Prop} {Q:Exit→Act→World→Prop}
  (hK:∀ φ a w,K φ w.heap→FA base n φ a→cV w0 w→cq (cy ops.toList) a0 a→φ.m=m0→Q .normal a w)
  (hX:∀ x a w,X x w.heap→FA base n (rz m0) a→cV w0 w→cq (cy ops.toList) a0 a→Q (.panic [{ v:=x,recovered:=false }]) a w) :
  ∀ (fw:Nat) (listed:Array Bool) (D:Nat) (a:Act) (w:World) (fuel past:Nat) (φ:Fr) (h:Heap),pk ops D listed→listed.toList.count false≤fw→Gs base P n ops p φ0 m0 w0 a0 past φ h D a w→Ck P n et X ops p φ0 fuel past φ h K→
    wpAnyIn (FW none) 0 P .any ops Q fw listed a w:=by
 have done:∀ (listed:Array Bool) (D:Nat) (a:Act) (w:World) (fuel past:Nat) (φ:Fr) (h:Heap),pk ops D listed→Gs base P n ops p φ0 m0 w0 a0 past φ h D a w→Ck P n et X ops p φ0 fuel past φ h K→
   Region.ready .any ops listed=[]→Q .normal a w:=by
  intro listed D a w fuel past φ h hL I0 H0 hr;obtain ⟨fuel,past,φ,I,hq,H⟩:=oN hp fuel past φ I0 H0;have hall:∀ i,i<ops.size→aO D i=true:=by
   intro i
   induction i using Nat.strongRecOn with
   | ind i ih=>
     intro hi
     cases hb:aO D i with
     | true=>rfl
     | false=>
       exfalso;have ho:ops[i]? = some ops[i]:=Array.getElem?_eq_getElem hi;have:i∈Region.ready .any ops listed:=by
        refine mem_ready.2 ⟨by rw [gz (by rw [hL.size]; exact hi),← hL.bits i hi]; exact hb,ops[i],ho,fun e he hbi=>?_⟩;have hon:=(io hp ho).2.1 e (by simpa using he) hbi;rw [← hL.bits e.on (by omega)];exact ih e.on hon (by omega)
       rw [hr] at this;cases this
  have hpast:past=2^ops.size - 1:=by
   apply Nat.eq_of_testBit_eq;intro i;rw [Nat.testBit_two_pow_sub_one];by_cases hi:i<ops.size
   · have:=I.sub i (hall i hi);rw [eH] at this;simp [hi,this]
   · have:aO past i=false:=by
      cases hb:aO past i with
      | false=>rfl
      | true=>exact absurd (I.lt i hb) hi
     rw [eH] at this;simp [hi,this]
  cases fuel with
  | zero=>exact H.elim
  | succ fuel=>
    unfold Ck at H;rw [hq] at H;simp only [] at H;rw [hpast,Nat.beq_refl,ab] at H;refine hK φ a w (I.heap▸H) ?_ I.same I.agree I.marks;have hfa:=I.fa;refine ⟨hfa.defers,hfa.size,fun t v hv ht=>hfa.slots t v ?_ ht⟩;simp only [eJ]
    cases hm:aO (cy ops.toList) t with
    | false=>exact hv
    | true=>
      obtain ⟨o,ho,hd⟩:=lB.1 hm;obtain ⟨j,hj⟩:=getElem?_of_mem ho;have hjl:j<ops.size:=by
       have:=(aj.1 hj).1;simpa using this
      have:aO (dm ops.toList 0 D) t=true:=(fF _ _ _ _).2 ⟨j,o,hj,by rw [Nat.zero_add]; exact hall j hjl,hd⟩;rw [this];exact hv
 intro fw
 induction fw with
 | zero=>
   intro listed D a w fuel past φ h hL hc I H;have hr:Region.ready .any ops listed=[]:=by
    apply List.eq_nil_iff_forall_not_mem.2;intro i hi;obtain ⟨h0,o,ho,_⟩:=mem_ready.1 hi;have hlt:i<ops.size:=(Array.getElem?_eq_some_iff.1 ho).1;have hil:i<listed.toList.length:=by simpa [hL.size] using hlt
    have hv:listed.toList[i]=false:=by
     simp [Array.getD,hL.size,hlt] at h0;simpa using h0
    have:0<listed.toList.count false:=List.count_pos_iff.2 (hv▸getElem_mem hil);omega
   exact ⟨hr,done listed D a w fuel past φ h hL I H hr⟩
 | succ fw ih=>
   intro listed D a w fuel past φ h hL hc I0 H0;refine ⟨fun hr=>done listed D a w fuel past φ h hL I0 H0 hr,fun i hi=>?_⟩;obtain ⟨fuel,past,φ,I,hq,H⟩:=oN hp fuel past φ I0 H0;obtain ⟨h0,o,ho,hafter⟩:=mem_ready.1 hi;have hlt:i<ops.size:=(Array.getElem?_eq_some_iff.1 ho).1;obtain ⟨hbef,hon,hnc⟩:=io hp ho;have hnD:aO D i=false:=by
    rw [hL.bits i hlt,← gz (by rw [hL.size]; exact hlt)];exact h0
   have hbD:∀ j,aO (p.befOf i) j=true→aO D j=true:=by
    intro j hj;rw [hbef,qM] at hj;obtain ⟨e,he,hbi,hj⟩:=hj;have h1:aO D e.on=true:=by
     rw [hL.bits e.on (by have:=hon e he hbi; omega)];exact hafter e (by simpa using he) hbi
    rcases hj with rfl | hj
    · exact h1
    · exact I.closed _ h1 j hj
   have hL':=qZ hL hlt;have hc':=count_set (by rw [hL.size]; exact hlt) h0 hc;have hfa:=yD (s8 hbD I.fa) I.inits hnD I.closed;have closed':∀ j,aO (Nat.lor D (2^i)) j=true→∀ k,aO (p.befOf j) k=true→aO (Nat.lor D (2^i)) k=true:=fun j hj k hk=>by
    refine aM.2 (.inl ?_)
    rcases aM.1 hj with hj | rfl
    · exact I.closed j hj k hk
    · exact hbD k hk
   have agree':∀ v,cq (cy ops.toList) a0 (a.put o.dst v):=fun v=>I.agree.put (fun d hd=>gN (by simpa using Array.mem_of_getElem? ho) hd) v
   cases hpi:aO past i with
   | true=>
     have hne:aO p.eff i=false:=by
      cases hb:aO p.eff i with
      | false=>rfl
      | true=>rw [I.effs i hpi hb] at hnD; cases hnD
     obtain ⟨v,hv,hy⟩:=I.facts i o hpi hne hnD ho;refine wpOpIn_of_qOpIn (C:=CC w0 h) (K:=fun a'=>a'=a.put o.dst v) rfl ⟨I.heap,I.same⟩ (fun a' w' hw' hK'=>?_) ((hy a w0 hfa).qOpIn ho rfl);subst hK';refine ih _ (Nat.lor D (2^i)) _ w' fuel past φ h hL' hc' ⟨closed',fun j hj=>?_,fun j hj he=>aM.2 (.inl (I.effs j hj he)),I.lt,I.pclosed,fun j o' hj he hD ho'=>I.facts j o' hj he ?_ ho',I.inits.put (cJ hp) ho v,mB ho I.fa hv,hw'.1,hw'.2,agree' v,I.marks⟩ H
     · rcases aM.1 hj with hj | rfl
       · exact I.sub j hj
       · exact hpi
     · cases hb:aO D j with
       | false=>rfl
       | true=>rw [aM.2 (.inl hb)] at hD; cases hD
   | false=>
     have hsubp:pV (p.befOf i) past=true:=nI.2 fun j hj=>I.sub j (hbD j hj);have heff:aO p.eff i=true:=by
      cases hb:aO p.eff i with
      | true=>rfl
      | false=>exact (nj _ _ hq i (au _) (by omega) hpi hb hsubp).elim
     cases fuel with
     | zero=>exact H.elim
     | succ fuel=>
       unfold Ck at H;rw [hq] at H;simp only [] at H;have hnfull:Nat.beq past (2^ops.size - 1)=false:=by
        cases hb:Nat.beq past (2^ops.size - 1) with
        | false=>rfl
        | true=>
          exfalso;have e:=Nat.eq_of_beq_eq_true hb;have:past.testBit i=true:=by rw [e,Nat.testBit_two_pow_sub_one]; simpa using hlt
          rw [← eH,hpi] at this;cases this
       rw [hnfull,aa] at H;have HE:=pi H (oX _ _ i (au _) (by omega) hpi heff hsubp);rw [ho] at HE;refine zP ho HE hfa I.heap (fun v w' hag hs=>?_) (fun x w' hx hs=>hX x a w' hx (wD I.fa I.marks) (I.same.trans hs) I.agree);obtain ⟨Hn,hagain⟩:=kZ _ _ hag;have keepD:eJ ops D (φ.put o.dst v)=eJ ops D φ:=kr (cJ hp) ho hnD φ v;refine ih _ (Nat.lor D (2^i)) _ w' fuel _ _ _ hL' hc' ⟨closed',fun j hj=>?_,fun j hj he=>?_,fun j hj=>?_,fun j hj k hk=>?_,fun j o' hj he hD ho'=>?_,I.inits.put (cJ hp) ho v,mB ho (by rw [keepD]; exact I.fa) (fun d hd=>nR hd),rfl,I.same.trans hs,agree' v,by rw [Fr.put_m]; exact I.marks⟩ Hn
       · refine aM.2 ?_
         rcases aM.1 hj with hj | rfl
         · exact .inl (I.sub j hj)
         · exact .inr rfl
       · refine aM.2 ?_
         rcases aM.1 hj with hj | rfl
         · exact .inl (I.effs j hj he)
         · exact .inr rfl
       · rcases aM.1 hj with hj | rfl
         · exact I.lt j hj
         · exact hlt
       · refine aM.2 (.inl ?_)
         rcases aM.1 hj with hj | rfl
         · exact I.pclosed j hj k hk
         · exact I.sub k (hbD k hk)
       · rcases aM.1 hj with hj | rfl
         · have hnb:aO (p.befOf i) j=false:=by
            cases hb:aO (p.befOf i) j with
            | false=>rfl
            | true=>rw [aM.2 (.inl (hbD j hb))] at hD; cases hD
           obtain ⟨o2,ho2,hg⟩:=hagain j (au _) (by have:=I.lt j hj; omega) hj he hnb;have:o2=o':=by rw [ho'] at ho2; simpa using ho2.symm
           subst this;obtain ⟨u,hu,hy⟩:=n7 hg ((io hp ho').2.2.1 he);refine ⟨u,fun d hd=>?_,hy⟩;unfold LI at hu;rw [hd] at hu;exact hu
         · rw [heff] at he; cases he
theorem uK {id:Nat} {r:Option Nat} {Q:Exit→Act→World→Prop} {K:Fr→Heap→Prop} {φ:Fr} {h:Heap} {a:Act} {w:World} {fuel:Nat}
  (hm:P.follows .mixedOrders=true) (hp:gF p ops=true) (H:Ck P n et X ops p φ fuel 0 φ h K) (ha:FA base n φ a) (hw:w.heap=h)
  (hK:∀ φ' a' w',K φ' w'.heap→FA base n φ' a'→cV w w'→cq (cy ops.toList) a a'→φ'.m=φ.m→Q .normal a' w')
  (hX:∀ x a' w',X x w'.heap→FA base n (rz φ.m) a'→cV w w'→cq (cy ops.toList) a a'→Q (.panic [{ v:=x,recovered:=false }]) a' w') :
  (Code.region id ops true).wpIn (FW r) 0 P Q a w:=by
 have hns:∀ (i:Nat) (o:Oper),ops[i]? = some o→gT o.op=true:=fun i o ho=>(io hp ho).2.2.2
 refine wpIn_region_draw fun t=>jU hns _ _ _ ?_
 simp only [Region.schedule,hm,Bool.true_or,if_true]
 refine wpAnyIn_sound ops.size t _ a _ ?_
 refine Hj (φ0:=φ) (w0:=w) (a0:=a) (m0:=φ.m) hp hK hX ops.size (Array.replicate ops.size false) 0 a _ fuel 0 φ h ⟨by simp,fun i hi=>by simp [gI,Array.getD,hi]⟩ (by simp) ?_ H
 refine ⟨fun i hi=>?_,fun i hi=>?_,fun i hi=>?_,fun i hi=>?_,fun i hi=>?_,fun i o hi=>?_,fun k o t v _ _ _ hv ht=>ha.slots t v hv ht,?_,hw,⟨rfl,rfl,rfl⟩,.refl _ a,rfl⟩
 all_goals first | (rw [gI] at hi; cases hi) | skip
 refine ⟨ha.defers,ha.size,fun t v hv ht=>ha.slots t v (gO hv).1 ht⟩
end
def Cn (P:Program) (n:Nat) (ann:Nat→cR) (tys:Nat→List TypeId) (pl:Nat→Option ft):Code→Nat→Fr→Heap→(Exit→Fr→Heap→Prop)→Prop
 | .skip,_,φ,h,K=>K .normal φ h
 | .label _,_,φ,h,K=>K .normal φ h
 | .seq a b,cur,φ,h,K=>Cn P n ann tys pl a cur φ h fun e φ' h'=>match e with
   | .normal=>Cn P n ann tys pl b cur φ' h' K
   | e=>K e φ' h'
 | .cond c x y,cur,φ,h,K=>rd n φ c fun v=>match v with
   | .bool t=>cond t (Cn P n ann tys pl x cur φ h K) (Cn P n ann tys pl y cur φ h K)
   | _=>False
 | .block id c,cur,φ,h,K=>Cn P n ann tys pl c id φ h fun e φ' h'=>match e with
   | .exit i=>cond (Nat.beq i id) (K .normal φ' h') (K (.exit i) φ' h')
   | e=>K e φ' h'
 | .exit i,_,φ,h,K=>K (.exit i) φ h
 | .ret,_,φ,h,K=>K .ret φ h
 | .loop c,cur,φ,h,K=>cond (fL c) ((ann cur).dec φ.s fun s0=>aZ (fun again s h=>Cn P n ann tys pl c cur (lG ((ann cur).enc s) (fl c) φ) h fun e φ' h'=>match e with
   | .normal=>(ann cur).dec φ'.s fun s'=>again s' h'
   | e=>K e φ' h') s0 h) False
 | .region id ops draw,_,φ,h,K=>cond draw
   (match pl id with
   | some p=>cond (P.follows .mixedOrders&&gF p ops) (Ck P n (tys (1000+id)) (fun x h'=>K (.panic [{ v:=x,recovered:=false }]) (rz φ.m) h') ops p φ (ops.size+1) 0 φ h fun φ' h'=>K .normal φ' h') False
   | none=>cond (P.follows .mixedOrders&&Region.lexB .any ops&&ops.toList.all (fun o=>cH o.op)) (ia P n ops ops.toList φ h fun φ'=>K .normal φ' h) False)
   (lh P n (tys (1000+id)) (fun x h'=>K (.panic [{ v:=x,recovered:=false }]) (rz φ.m) h') ops ops.toList φ h fun φ' h'=>K .normal φ' h')
 | _,_,_,_,_=>False
section
variable {P:Program} {n:Nat} {ann:Nat→cR} {tys:Nat→List TypeId} {pl:Nat→Option ft}
theorem tu:∀ (c:Code) {base:List Deferred} (r:Option Nat) (cur:Nat) (φ:Fr) (h:Heap) (K:Exit→Fr→Heap→Prop) (a:Act) (w:World) (Q:Exit→Act→World→Prop),
  Cn P n ann tys pl c cur φ h K→FA base n φ a→w.heap=h→
  (∀ e φ' a' w',K e φ' w'.heap→FA base n φ' a'→cV w w'→cq (fl c) a a'→(fL c=true→φ'.m=φ.m)→Q e a' w')→c.wpIn (FW r) 0 P Q a w:=by
 intro c
 induction c with
 | skip=>intro base r cur φ h K a w Q H ha hw hQ; subst hw; exact wpIn_skip (hQ _ _ _ _ H ha (.refl w) (.refl _ a) fun _=>rfl)
 | label l=>intro base r cur φ h K a w Q H ha hw hQ; subst hw; exact wpIn_label (hQ _ _ _ _ H ha (.refl w) (.refl _ a) fun _=>rfl)
 | exit i=>intro base r cur φ h K a w Q H ha hw hQ; subst hw; exact wpIn_exit (hQ _ _ _ _ H ha (.refl w) (.refl _ a) fun _=>rfl)
 | ret=>intro base r cur φ h K a w Q H ha hw hQ; subst hw; exact wpIn_ret (hQ _ _ _ _ H ha (.refl w) (.refl _ a) fun _=>rfl)
 | goto l=>intro base r cur φ h K a w Q H; exact H.elim
 | scope c _=>intro base r cur φ h K a w Q H; exact H.elim
 | refuse why=>intro base r cur φ h K a w Q H; exact H.elim
 | seq x y ihx ihy=>
   intro base r cur φ h K a w Q H ha hw hQ;refine wpIn_seq (ihx r cur φ h _ a w _ H ha hw ?_);intro e φ' a' w' hq ha' hs hag hm
   cases e with
   | normal=>
     refine ihy r cur φ' _ K a' w' _ hq ha' rfl ?_;intro e φ2 a2 w2 hq2 ha2 hs2 hag2 hm2;refine hQ e φ2 a2 w2 hq2 ha2 (hs.trans hs2) (hag.left.trans hag2.right) fun hn=>?_;simp only [fL,aw] at hn;exact (hm2 hn.2).trans (hm hn.1)
   | exit i=>exact hQ _ _ _ _ hq ha' hs hag.left fun hn=>hm (by simp only [fL,aw] at hn; exact hn.1)
   | goto i=>exact hQ _ _ _ _ hq ha' hs hag.left fun hn=>hm (by simp only [fL,aw] at hn; exact hn.1)
   | ret=>exact hQ _ _ _ _ hq ha' hs hag.left fun hn=>hm (by simp only [fL,aw] at hn; exact hn.1)
   | panic ch=>exact hQ _ _ _ _ hq ha' hs hag.left fun hn=>hm (by simp only [fL,aw] at hn; exact hn.1)
   | outgrown=>exact hQ _ _ _ _ hq ha' hs hag.left fun hn=>hm (by simp only [fL,aw] at hn; exact hn.1)
 | cond c x y ihx ihy=>
   intro base r cur φ h K a w Q H ha hw hQ;obtain ⟨v,hv,H⟩:=br H;cases v <;> simp only [] at H <;> first | exact H.elim | skip
   rename_i t;refine wpIn_cond (bf ha hv) ?_
   cases t with
   | true=>exact ihx r cur φ h K a w _ H ha hw fun e φ' a' w' hq ha' hs hag hm=>hQ e φ' a' w' hq ha' hs hag.left fun hn=>hm (by simp only [fL,aw] at hn; exact hn.1)
   | false=>exact ihy r cur φ h K a w _ H ha hw fun e φ' a' w' hq ha' hs hag hm=>hQ e φ' a' w' hq ha' hs hag.right fun hn=>hm (by simp only [fL,aw] at hn; exact hn.2)
 | block id c ih=>
   intro base r cur φ h K a w Q H ha hw hQ;refine wpIn_block (ih r id φ h _ a w _ H ha hw ?_);intro e φ' a' w' hq ha' hs hag hm
   cases e with
   | exit i=>
     simp only [] at hq;simp only [Exit.inBlock]
     cases hb:Nat.beq i id with
     | true=>
       rw [hb] at hq;rw [al (Nat.eq_of_beq_eq_true hb)];exact hQ _ _ _ _ hq ha' hs hag hm
     | false=>
       rw [hb] at hq;rw [ak (fun e=>by rw [e,Nat.beq_refl] at hb; cases hb)];exact hQ _ _ _ _ hq ha' hs hag hm
   | normal=>exact hQ _ _ _ _ hq ha' hs hag hm
   | goto i=>exact hQ _ _ _ _ hq ha' hs hag hm
   | ret=>exact hQ _ _ _ _ hq ha' hs hag hm
   | panic ch=>exact hQ _ _ _ _ hq ha' hs hag hm
   | outgrown=>exact hQ _ _ _ _ hq ha' hs hag hm
 | loop c ih=>
   intro base r cur φ h K a w Q H ha hw hQ;simp only [Cn] at H
   cases hn:fL c with
   | false=>rw [hn] at H; exact H.elim
   | true=>
     rw [hn] at H;obtain ⟨s0,hs0,J,μ,h0,hround⟩:=(ann cur).ok _ _ H;refine wpIn_loop_ghost (fun k a' w'=>∃ s,J s w'.heap∧μ s w'.heap=k∧FA base n (lG ((ann cur).enc s) (fl c) φ) a'∧cq (fl c) a a'∧cV w w') (μ s0 h)
      ⟨s0,hw▸h0,by rw [hw],mq ha ha rfl hs0 (.refl _ a),.refl _ a,.refl w⟩ ?_
     rintro k a1 w1 ⟨s,hJ,rfl,ha1,hag1,hs1⟩;refine ih r cur _ _ _ a1 w1 _ (hround s w1.heap hJ) ha1 rfl ?_;intro e φ2 a2 w2 hq ha2 hs2 hag2 hm2;have hm2':φ2.m=φ.m:=hm2 hn
     cases e with
     | normal=>
       obtain ⟨s',he,hJ',hlt⟩:=(ann cur).ok _ _ hq;exact ⟨_,hlt,s',hJ',rfl,mq ha ha2 hm2' he (hag1.trans hag2),hag1.trans hag2,hs1.trans hs2⟩
     | exit i=>exact hQ _ _ _ _ hq ha2 (hs1.trans hs2) (hag1.trans hag2) fun _=>hm2'
     | goto i=>exact hQ _ _ _ _ hq ha2 (hs1.trans hs2) (hag1.trans hag2) fun _=>hm2'
     | ret=>exact hQ _ _ _ _ hq ha2 (hs1.trans hs2) (hag1.trans hag2) fun _=>hm2'
     | panic ch=>exact hQ _ _ _ _ hq ha2 (hs1.trans hs2) (hag1.trans hag2) fun _=>hm2'
     | outgrown=>exact hQ _ _ _ _ hq ha2 (hs1.trans hs2) (hag1.trans hag2) fun _=>hm2'
 | region id ops draw=>
   intro base r cur φ h K a w Q H ha hw hQ;simp only [Cn] at H
   cases draw with
   | false=>
     exact rV H ha hw (fun φ' a' w' hq ha' hs hag hm=>hQ _ _ _ _ hq ha' hs hag fun _=>hm) (fun x a' w' hq ha' hs hag=>hQ _ _ _ _ hq ha' hs hag fun _=>rfl)
   | true=>
     simp only [ab] at H;split at H
     · rename_i p hpl
       cases hb:(P.follows .mixedOrders&&gF p ops) with
       | false=>rw [hb] at H; exact H.elim
       | true=>
         rw [hb] at H;simp only [aw] at hb;exact uK hb.1 hb.2 H ha hw (fun φ' a' w' hq ha' hs hag hm=>hQ _ _ _ _ hq ha' hs hag fun _=>hm) (fun x a' w' hq ha' hs hag=>hQ _ _ _ _ hq ha' hs hag fun _=>rfl)
     cases hb:(P.follows .mixedOrders&&Region.lexB .any ops&&ops.toList.all (fun o=>cH o.op)) with
     | false=>rw [hb] at H; exact H.elim
     | true=>
       rw [hb] at H;simp only [aw] at hb;have hall:ops.all (fun o=>cH o.op)=true:=by rw [← Array.all_toList]; exact hb.2
       exact rn hb.1.1 hb.1.2 hall H ha hw fun φ' a' w' hq ha' hw' hs hag hm=>hQ _ _ _ _ (hw'▸hq) ha' hs hag fun _=>hm
 | rangeFunc f ps assign body ihA ihB=>intro base r cur φ h K a w Q H; exact H.elim
end
def tZ (chain:List PanicEntry) (K:Value→Prop):Prop:=
 match chain with
 | [{ v:=x,recovered:=false,goexit:=false }]=>K x
 | _=>False
def wg (P:Program) (fn:Func) (ann:Nat→cR) (tys:Nat→List TypeId) (pl:Nat→Option ft) (args:List Value) (h:Heap) (Q X:Value→Heap→Prop):Prop:=
 match fn.body with
 | none=>False
 | some c=>cond (decide (args.length≤fn.ntmps)&&fL c) (Cn P fn.ntmps ann tys pl c 0 (nn args fn.ntmps) h fun e φ h'=>match e with
   | .normal=>jH P fn.ntmps φ h' fn.results.toList fun vs=>Q (jJ vs) h'
   | .ret=>jH P fn.ntmps φ h' fn.results.toList fun vs=>Q (jJ vs) h'
   | .panic ch=>tZ ch fun x=>X x h'
   | _=>False) False
theorem zL {args:List Value} {n:Nat} (hlen:args.length≤n):FA [] n (nn args n) { tmps:=args.toArray++Array.replicate (n - args.toArray.size) undef,defers:=[] }:=by
 refine ⟨rfl,by simp; omega,fun t v hv ht=>?_⟩
 simp only [nn] at hv
 cases ht2:args[t]? with
 | some u=>
   rw [ht2] at hv;simp only [Option.some.injEq] at hv;subst hv;have hlt:t<args.length:=(aj.1 ht2).1;rw [Array.getElem?_append_left (by simpa using hlt)];simpa using ht2
 | none=>
   rw [ht2] at hv;simp only [Option.some.injEq] at hv;subst hv;have hge:args.length≤t:=List.getElem?_eq_none_iff.1 ht2;rw [Array.getElem?_append_right (by simpa using hge)];rw [Array.getElem?_replicate,al (by simp; omega)]
theorem sk {chain:List PanicEntry} {K:Value→Prop} (h:tZ chain K):∃ x,chain=[{ v:=x,recovered:=false }]∧K x:=by
 unfold tZ at h
 split at h
 · exact ⟨_,rfl,h⟩
 · exact h.elim
theorem i7 {P:Program} {f:FuncId} {fn:Func} {ann:Nat→cR} {tys:Nat→List TypeId} {pl:Nat→Option ft} {args:List Value} {h:Heap} {Q X:Value→Heap→Prop}
  (hf:P.funcs[f]? = some fn) (hc:df P f=true) (H:wg P fn ann tys pl args h Q X):fi P f args h Q X:=by
 refine ⟨hc,fun w hw=>?_⟩
 subst hw
 unfold wg at H
 split at H
 · exact H.elim
 · rename_i c hb
   cases hlen:(decide (args.length≤fn.ntmps)&&fL c) with
   | false=>rw [hlen] at H; exact H.elim
   | true=>
     rw [hlen] at H;rw [aw] at hlen;have hlen':args.length≤fn.ntmps:=of_decide_eq_true hlen.1;refine callsIn_of_wp_marks hf hb trivial ?_;refine tu (base:=[]) c none 0 _ _ _ _ w _ H (zL hlen') rfl ?_;intro e φ' a' w' hq ha' hs _ hm;have hm0:φ'.m=[]:=hm hlen.2;have hd:a'.defers=[]:=by rw [ha'.defers,hm0]; rfl
     have fin:(jH P fn.ntmps φ' w'.heap fn.results.toList fun vs=>Q (jJ vs) w'.heap)→
      LeavesInM Fence.wide 0 P fn a'.tmps (fun e w'=>(∃ v,e=.returned v∧Q v w'.heap∧cV w w')∨(∃ x,e=.panicked [{ v:=x,recovered:=false }]∧X x w'.heap∧cV w w')) a'.defers .returning w':=fun hq=>by
      rw [hd];obtain ⟨v,hv,hq2⟩:=im (Q:=fun v=>Q v w'.heap) ha' hq;exact ⟨v,hv,.inl ⟨v,rfl,hq2,hs⟩⟩
     cases e <;> simp only [] at hq <;> first | exact hq.elim | exact fin hq | skip
     obtain ⟨x,rfl,hx⟩:=sk hq;show LeavesInM Fence.wide 0 P fn a'.tmps _ a'.defers (.panicking _) w';rw [hd];exact .inr ⟨x,rfl,hx,hs⟩
def uW (P:Program) (f:FuncId) (args:List Value) (x:Value) (h:Heap) (K:Heap→Prop):Prop:=
 df P f=true∧∀ w:World,w.heap=h→CallsDIn Fence.wide 0 P f args.toArray (.panicking [{ v:=x,recovered:=false }]) w fun e u' w'=>(∃ v,e=.returned v)∧settle u'=.returning∧K w'.heap∧cV w w'
def LJ (m:Nat) (φ:Fr):Fr:=⟨fun t=>bif aO m t then none else φ.s t,[]⟩
theorem Ht {base':List Deferred} {n m:Nat} {φ φ':Fr} {a a':Act} (h:FA base n φ a) (h2:FA base' n φ' a') (hag:cq m a a'):FA a'.defers n (LJ m φ) a':=by
 refine ⟨rfl,h2.size,fun t v hv ht=>?_⟩
 simp only [LJ] at hv
 cases hb:aO m t with
 | true=>rw [hb] at hv; cases hv
 | false=>
   rw [hb] at hv;rw [hag t hb];exact h.slots t v hv ht
def Ca (P:Program) (fn:Func) (ann:Nat→cR) (tys:Nat→List TypeId) (pl:Nat→Option ft) (args:List Value) (h:Heap) (Q:Value→Heap→Prop):Prop:=
 match fn.body with
 | some (.seq a (.seq (.region _ ops false) rest))=>match yS ops with
   | some (t,g,caps)=>cond (decide (args.length≤fn.ntmps)&&fL a&&fL rest&&decide (t<fn.ntmps)) (uZ P fn.ntmps ann tys pl none a 0 (nn args fn.ntmps) h fun e φ1 h1=>match e with
     | .normal=>zx fn.ntmps φ1 caps fun vs=>Cn P fn.ntmps ann tys pl rest 0 (φ1.put (some t) (.func (.func g) #[] vs.toArray)) h1 fun e φ2 h2=>match e with
       | .normal=>j3 P g vs h2 fun h4=>jH P fn.ntmps φ2 h4 fn.results.toList fun rs=>Q (jJ rs) h4
       | .ret=>j3 P g vs h2 fun h4=>jH P fn.ntmps φ2 h4 fn.results.toList fun rs=>Q (jJ rs) h4
       | .panic ch=>tZ ch fun x=>uW P g vs x h2 fun h4=>jH P fn.ntmps (LJ (fl rest) (φ1.put (some t) (.func (.func g) #[] vs.toArray))) h4 fn.results.toList fun rs=>Q (jJ rs) h4
       | _=>False
     | _=>False) False
   | none=>False
 | _=>False
theorem xU {P:Program} {f:FuncId} {fn:Func} {ann:Nat→cR} {tys:Nat→List TypeId} {pl:Nat→Option ft} {args:List Value} {h:Heap} {Q:Value→Heap→Prop}
  (hf:P.funcs[f]? = some fn) (hc:df P f=true) (H:Ca P fn ann tys pl args h Q):aC P f args h Q:=by
 refine ⟨hc,fun w hw=>?_⟩
 subst hw
 unfold Ca at H
 split at H <;> first | exact H.elim | skip
 rename_i a id ops rest hb
 split at H <;> first | exact H.elim | skip
 rename_i t g caps hd
 cases hlen:(decide (args.length≤fn.ntmps)&&fL a&&fL rest&&decide (t<fn.ntmps)) with
 | false=>rw [hlen] at H; exact H.elim
 | true=>
   rw [hlen] at H;rw [aw,aw,aw] at hlen;have hlen':args.length≤fn.ntmps:=of_decide_eq_true hlen.1.1.1;refine callsIn_of_wp_marks hf hb trivial ?_;refine wpIn_seq (tv (base:=[]) a none 0 _ _ _ _ w _ H ?_ rfl ?_)
   · refine ⟨rfl,by simp; omega,fun t v hv ht=>?_⟩;simp only [nn] at hv
     cases ht2:args[t]? with
     | some u=>
       rw [ht2] at hv;simp only [Option.some.injEq] at hv;subst hv;have hlt:t<args.length:=(aj.1 ht2).1;rw [Array.getElem?_append_left (by simpa using hlt)];simpa using ht2
     | none=>
       rw [ht2] at hv;simp only [Option.some.injEq] at hv;subst hv;have hge:args.length≤t:=List.getElem?_eq_none_iff.1 ht2;rw [Array.getElem?_append_right (by simpa using hge)];rw [Array.getElem?_replicate,al (by simp; omega)]
   · intro e φ1 a1 w1 hq ha1 hs1 _ hm1;cases e <;> simp only [] at hq <;> first | exact hq.elim | skip
     have hm0:φ1.m=[]:=hm1 hlen.1.1.2;obtain ⟨vs,hvs,H2⟩:=eo hq;unfold yS at hd;split at hd <;> first | cases hd; done | skip
     rename_i o1 o2 hops;split at hd <;> first | cases hd; done | skip
     rename_i t1 g1 first1 caps1 t2 args2 _ e1 e2 e3 e4 e5 e6
     cases hcnd:(Nat.beq t1 t2&&Nat.beq first1.size 0&&Nat.beq args2.size 0) with
     | false=>rw [hcnd] at hd; cases hd
     | true=>
       rw [hcnd] at hd;simp only [ab,Option.some.injEq,Prod.mk.injEq] at hd;obtain ⟨rfl,rfl,rfl⟩:=hd;simp only [aw] at hcnd;have ht12:t1=t2:=Nat.eq_of_beq_eq_true hcnd.1.1;subst ht12;have hf0:first1=#[]:=Array.eq_empty_of_size_eq_zero (Nat.eq_of_beq_eq_true hcnd.1.2);have ha0:args2=#[]:=Array.eq_empty_of_size_eq_zero (Nat.eq_of_beq_eq_true hcnd.2);subst hf0 ha0;have ha1':FA [] fn.ntmps (φ1.put (some t1) (.func (.func g1) #[] vs.toArray)) (a1.put (some t1) (.func (.func g1) #[] vs.toArray)):=ha1.put _ _;have hcap:caps1.map a1.eval=vs.toArray:=by
        apply Array.ext';rw [Array.toList_map];simpa using hvs a1 ha1
       refine wpIn_seq (wpIn_region_list ?_);rw [hops];unfold wpListIn;rw [al (by simp [Region.wanted,e3])];refine du (r:=none) (by rw [e2]; rfl) (v:=.func (.func g1) #[] vs.toArray) (w':=w1) ?_ ?_
       · simp only [execOp,e2,Instr.makeFunc,hcap,Array.map_empty]
         rfl
       rw [e1];unfold wpListIn;rw [al (by simp [Region.wanted,e6])];refine ⟨fun _ _=>trivial,?_⟩;have he:(Oper.semAt Fence.wide.round (a1.put (some t1) (.func (.func g1) #[] vs.toArray)).eval o2).run P w1=.ok (.defer { target:=.fn (.func g1) vs.toArray,args:=#[] }) w1:=by
        show (execOp _ o2).run P w1=_;have ev:(a1.put (some t1) (.func (.func g1) #[] vs.toArray)).eval (.tmp t1)=.func (.func g1) #[] vs.toArray:=by
         refine bf ha1' (x:=.tmp t1) ?_;have htn:t1<fn.ntmps:=of_decide_eq_true hlen.2;have hb2:Nat.blt t1 fn.ntmps=true:=by rw [Nat.blt_eq]; exact htn
         show (bif Nat.blt t1 fn.ntmps then (bif Nat.beq t1 t1 then some (Value.func (.func g1) #[] vs.toArray) else φ1.s t1) else none)=_;rw [hb2,Nat.beq_refl,ab,ab]
        simp only [execOp,e5,resolve,ev,Deferred.ofValue,Array.map_empty]
        rfl
       rw [he,Oper.uponIn_defer,e4];refine tu (base:=[{ target:=.fn (.func g1) vs.toArray,args:=#[] }]) rest none 0 _ _ _ _ w1 _ H2 ?_ rfl ?_
       · refine ⟨?_,ha1'.size,ha1'.slots⟩;have h1:=ha1'.defers;rw [Fr.put_m,hm0] at h1 ⊢;simp only [map_nil,nil_append] at h1 ⊢;show _::(a1.put (some t1) (.func (.func g1) #[] vs.toArray)).defers=_;rw [h1]
       · intro e φ2 a2 w2 hq2 ha2 hs2 hag2 hm2;have hm3:φ2.m=[]:=by rw [hm2 hlen.1.2,Fr.put_m,hm0]
         have hd2:a2.defers=[{ target:=.fn (.func g1) vs.toArray,args:=#[] }]:=by rw [ha2.defers,hm3]; rfl
         have inv:df P g1=true→∀ w:World,(invoke (.fn (.func g1) vs.toArray) #[]).run P w=.ok (.enter g1 vs.toArray) w:=fun hc w=>by
          simp only [invoke];rw [show (#[]++vs.toArray:Array Value)=vs.toArray from by simp];exact fd hc _ _
         have fin:(j3 P g1 vs w2.heap fun h4=>jH P fn.ntmps φ2 h4 fn.results.toList fun rs=>Q (jJ rs) h4)→
          LeavesInM Fence.wide 0 P fn a2.tmps (fun e w'=>∃ v,e=.returned v∧Q v w'.heap∧cV w w') a2.defers .returning w2:=fun hq=>by
          rw [hd2];have h3:j3 P g1 vs w2.heap fun h4=>∀ w',w'.heap=h4→∃ v,(results fn a2.tmps).run P w'=.ok v w'∧Q v w'.heap:=hq.mono fun h4 hr2 w4 hw4=>by
           subst hw4;exact im (Q:=fun v=>Q v w4.heap) ha2 hr2
          exact q5 (ds:=[]) h3 (hs1.trans hs2)
         cases e <;> simp only [] at hq2 <;> first | exact hq2.elim | exact fin hq2 | skip
         obtain ⟨x,rfl,hc,hx⟩:=sk hq2;show LeavesInM Fence.wide 0 P fn a2.tmps _ a2.defers (.panicking _) w2;rw [hd2];refine ⟨by simp,.inr ⟨(fun hh=>by cases hh),.func g1,vs.toArray,g1,vs.toArray,rfl,inv hc w2,fun _ _=>trivial,?_⟩⟩;refine (hx w2 rfl).mono ?_;rintro e u' w' ⟨⟨v,rfl⟩,hst,hk,hs3⟩;show LeavesInM Fence.wide 0 P fn a2.tmps _ [] (settle u') w';rw [hst];obtain ⟨v,hv,hq⟩:=im (Q:=fun v=>Q v w'.heap) (Ht ha1' ha2 hag2) hk;exact ⟨v,hv,v,rfl,hq,(hs1.trans hs2).trans hs3⟩
end Go.Proofs.YtmemjbiijclbdaaGreat
