/- How heaps are dealt: the plain law (needs nothing of the program). -/
namespace Go.Proofs.YtdpaiiibndnanaaGreatDoor.Dl
open List (filter_cons length_cons map_cons map_congr_left nil_append cons_append)
abbrev LP:=List (Int×Int)
def bC (p:Int×Int):Bool:=decide (p.1>0)&&decide (p.1 - p.2>0)
def cnt (l:LP):Nat:=(l.filter bC).length
def nU (e:Int) (l:LP):LP:=l.map fun p=>if bC p=true then (p.1,p.2+e) else p
def bF (e:Int):LP→Int→LP×Int
 | [],m=>([],m)
 | p::l,m=>if bC p=true∧m>0 then let r:=bF e l (m - e); ((p.1,p.2+e)::r.1,r.2) else let r:=bF e l m; (p::r.1,r.2)
inductive j4:LP→Int→LP→Prop
 | done {l:LP} {m:Int}:m≤0→j4 l m l
 | none {l:LP} {m:Int}:cnt l=0→j4 l m l
 | step {l:LP} {m:Int} {r:LP}:m>0→cnt l≠0→j4 (bF 1 l m).1 (bF 1 l m).2 r→j4 l m r
theorem j4.uniq {l:LP} {m:Int} {r s:LP} (h:j4 l m r):j4 l m s→r=s:=by
 induction h generalizing s with
 | done h=>
   intro h2
   cases h2 with
   | done _=>rfl
   | none _=>rfl
   | step h3 _ _=>omega
 | none h=>
   intro h2
   cases h2 with
   | done _=>rfl
   | none _=>rfl
   | step _ h3 _=>exact absurd h h3
 | step h h1 _ ih=>
   intro h2
   cases h2 with
   | done h3=>omega
   | none h3=>exact absurd h3 h1
   | step _ _ h4=>exact ih h4
theorem eU (p:Int×Int) (l:LP):cnt (p::l)=(if bC p=true then 1 else 0)+cnt l:=by
 unfold cnt
 rw [filter_cons]
 split
 · rw [length_cons]; omega
 · omega
theorem l9 (e:Int) (he:0<e):∀ (l:LP) (m:Int),e*(cnt l:Int)≤m→bF e l m=(nU e l,m - e*(cnt l:Int))
 | [],m,_=>by simp [bF,nU,cnt]
 | p::l,m,h=>by
   rw [eU] at h ⊢;unfold bF nU;rw [map_cons];by_cases ho:bC p=true
   · simp only [ho,if_true] at h ⊢;rw [show ((1+cnt l:Nat):Int)=1+(cnt l:Int) by omega,Int.mul_add,Int.mul_one] at h ⊢;have h0:0≤e*(cnt l:Int):=Int.mul_nonneg (by omega) (by omega);rw [if_pos ⟨trivial,by omega⟩,l9 e he l (m - e) (by omega)];unfold nU;simp only [Prod.mk.injEq,true_and];omega
   · simp only [ho,if_false,Nat.zero_add,false_and,Bool.false_eq_true] at h ⊢;rw [l9 e he l m (by simpa using h)]
     rfl
theorem ri {j e:Int} (hj:0≤j) (hje:j<e):∀ (l:LP),(∀ p∈l,bC p=true→e≤p.1 - p.2)→nU 1 (nU j l)=nU (j+1) l∧cnt (nU j l)=cnt l
 | [],_=>⟨rfl,rfl⟩
 | p::l,h=>by
   obtain ⟨h1,h2⟩:=ri hj hje l fun q hq=>h q (by simp [hq]);unfold nU at h1 h2 ⊢;rw [map_cons,map_cons,map_cons,eU,eU,h1,h2];by_cases ho:bC p=true
   · have hl:=h p (by simp) ho;have ho2:bC (p.1,p.2+j)=true:=by
      unfold bC at ho ⊢;simp only [Bool.and_eq_true,decide_eq_true_eq] at ho ⊢;omega
     simp only [ho,ho2,if_true,and_true,List.cons.injEq,Prod.mk.injEq,true_and];omega
   · simp only [ho,if_false,Bool.false_eq_true,and_self]
theorem w9 (l:LP):nU 0 l=l:=by
 unfold nU
 rw [map_congr_left (g:=id) (fun p _=>by split <;> simp),List.map_id]
theorem j4.big {l:LP} {m:Int} {e:Nat} {r:LP} (he:1≤e) (hc:cnt l≠0) (hm:(e:Int)*(cnt l:Int)≤m) (hl:∀ p∈l,bC p=true→(e:Int)≤p.1 - p.2) (H:j4 (bF e l m).1 (bF e l m).2 r):j4 l m r:=by
 rw [l9 e (by omega) l m hm] at H
 have key:∀ j:Nat,j≤e→j4 (nU ((e - j:Nat):Int) l) (m - ((e - j:Nat):Int)*(cnt l:Int)) r:=by
  intro j
  induction j with
  | zero=>exact fun _=>H
  | succ j ih=>
    intro hj;have H1:=ih (by omega);obtain ⟨k,hk⟩:∃ k:Nat,e - j=k+1:=⟨e - j - 1,by omega⟩
    rw [show e - (j+1)=k by omega];rw [hk] at H1;have hb:=ri (j:=(k:Int)) (e:=(e:Int)) (by omega) (by omega) l hl;have hmul:(k:Int)*(cnt l:Int)+(cnt l:Int)≤m:=by
     have h1:((k+1:Nat):Int)*(cnt l:Int)≤(e:Int)*(cnt l:Int):=Int.mul_le_mul_of_nonneg_right (by omega) (by omega);rw [show ((k+1:Nat):Int)=(k:Int)+1 by omega,Int.add_mul,Int.one_mul] at h1;omega
    refine j4.step (by omega) (by rw [hb.2]; exact hc) ?_;rw [l9 1 (by decide) _ _ (by rw [hb.2]; omega),hb.1,hb.2];rw [show ((k+1:Nat):Int)=(k:Int)+1 by omega,Int.add_mul,Int.one_mul] at H1;rw [show m - (k:Int)*(cnt l:Int) - 1*(cnt l:Int)=m - ((k:Int)*(cnt l:Int)+(cnt l:Int)) by omega];exact H1
 have:=key e (Nat.le_refl _)
 rw [Nat.sub_self] at this
 simpa [w9] using this
theorem j4.small {l:LP} {m:Int} {r:LP} (hm:m>0) (hc:cnt l≠0) (H:j4 (bF 1 l m).1 (bF 1 l m).2 r):j4 l m r:=.step hm hc H
theorem fy (e:Int) (he:0<e):∀ (l:LP) (m:Int),(bF e l m).2≤m∧(cnt l≠0→0<m→(bF e l m).2<m)
 | [],m=>⟨Int.le_refl _,fun h=>absurd rfl h⟩
 | p::l,m=>by
   unfold bF;by_cases h:bC p=true∧m>0
   · rw [if_pos h];have:=(fy e he l (m - e)).1;exact ⟨by show (bF e l (m - e)).2≤m; omega,fun _ _=>by show (bF e l (m - e)).2<m; omega⟩
   · rw [if_neg h];have h1:=fy e he l m;refine ⟨h1.1,fun hc hm=>h1.2 (fun h0=>?_) hm⟩;rw [eU,h0] at hc;by_cases ho:bC p=true
     · exact h ⟨ho,hm⟩
     · simp [ho] at hc
theorem iC (e:Int):∀ (l:LP) (m:Int),(bF e l m).1.map (·.1)=l.map (·.1)
 | [],_=>rfl
 | p::l,m=>by
   unfold bF;split
   · show p.1::(bF e l (m - e)).1.map (·.1)=_;rw [iC]; rfl
   · show p.1::(bF e l m).1.map (·.1)=_;rw [iC]; rfl
theorem ik (e:Int) (p:Int×Int):∀ (l:LP) (m:Int),bF e (l++[p]) m=if bC p=true∧(bF e l m).2>0 then ((bF e l m).1++[(p.1,p.2+e)],(bF e l m).2 - e) else ((bF e l m).1++[p],(bF e l m).2)
 | [],m=>by
   rw [nil_append,bF];show (if bC p=true∧m>0 then _ else _)=if bC p=true∧m>0 then _ else _
   split <;> rfl
 | q::l,m=>by
   rw [cons_append,bF,bF];by_cases h:bC q=true∧m>0
   · rw [if_pos h,if_pos h];simp only [ik e p l (m - e)];split <;> rfl
   · rw [if_neg h,if_neg h];simp only [ik e p l m];split <;> rfl
theorem l8 (e:Int) (l:LP) (m:Int):(bF e l m).1.length=l.length:=by
 have:=congrArg List.length (iC e l m)
 simpa using this
theorem kM (e:Int):∀ (l:LP) (m:Int),cnt l=0→bF e l m=(l,m)
 | [],_,_=>rfl
 | p::l,m,h=>by
   rw [eU] at h;have ho:¬ bC p=true:=fun ho=>by rw [if_pos ho] at h; omega
   rw [bF,if_neg (fun h2=>ho h2.1),kM e l m (by omega)]
def Fits (l:LP):Prop:=∀ p∈l,0≤p.2∧(p.2≤p.1∨p.2=0)
theorem il (e:Int) (he:0<e):∀ (l:LP) (m:Int),Fits l→(∀ p∈l,bC p=true→e≤p.1 - p.2)→Fits (bF e l m).1
 | [],_,_,_=>fun p hp=>by cases hp
 | p::l,m,hF,hl=>by
   have h1:=hF p (by simp);unfold bF;split
   · rename_i ho;have h2:=hl p (by simp) ho.1;intro q hq
     rcases List.mem_cons.1 hq with rfl | hq
     · exact ⟨by show 0≤p.2+e; omega,.inl (by show p.2+e≤p.1; omega)⟩
     · exact il e he l (m - e) (fun q hq=>hF q (by simp [hq])) (fun q hq=>hl q (by simp [hq])) q hq
   · intro q hq
     rcases List.mem_cons.1 hq with rfl | hq
     · exact h1
     · exact il e he l m (fun q hq=>hF q (by simp [hq])) (fun q hq=>hl q (by simp [hq])) q hq
def each (m least:Int) (o:Nat):Int:=if (1:Int)>(if Int.tdiv m (o:Int)<least then Int.tdiv m (o:Int) else least) then 1 else (if Int.tdiv m (o:Int)<least then Int.tdiv m (o:Int) else least)
theorem kr {l:LP} {m least:Int} {r:LP} (hm:m>0) (hc:cnt l≠0) (h1:1≤least) (hl:∀ p∈l,bC p=true→least≤p.1 - p.2) :
  1≤each m least (cnt l)∧each m least (cnt l)≤least∧(j4 (bF (each m least (cnt l)) l m).1 (bF (each m least (cnt l)) l m).2 r→j4 l m r):=by
 obtain ⟨M,rfl⟩:∃ M:Nat,m=(M:Int):=⟨m.toNat,by omega⟩
 have hd:Int.tdiv (M:Int) (cnt l:Int)=((M / cnt l:Nat):Int):=by rw [Int.tdiv_eq_ediv_of_nonneg (by omega)]; rfl
 have hle:1≤each (M:Int) least (cnt l)∧each (M:Int) least (cnt l)≤least:=by
  unfold each;rw [hd];generalize M / cnt l=d;split <;> split <;> omega
 refine ⟨hle.1,hle.2,fun H=>?_⟩
 by_cases h0:M / cnt l=0
 · have e1:each (M:Int) least (cnt l)=1:=by
    unfold each;rw [hd,h0];split <;> split <;> omega
   rw [e1] at H;exact j4.small hm hc H
 · have e1:each (M:Int) least (cnt l)≤((M / cnt l:Nat):Int):=by
    unfold each;rw [hd];revert h0;generalize M / cnt l=d;intro h0;split <;> split <;> omega
   obtain ⟨e,he⟩:∃ e:Nat,each (M:Int) least (cnt l)=(e:Int):=⟨(each (M:Int) least (cnt l)).toNat,by omega⟩
   rw [he] at H e1 hle;refine j4.big (e:=e) (by omega) hc ?_ (fun p hp ho=>by have:=hl p hp ho; omega) H;have h2:e*cnt l≤M / cnt l*cnt l:=Nat.mul_le_mul_right _ (by omega);have h3:=Nat.div_mul_le_self M (cnt l);have h4:e*cnt l≤M:=Nat.le_trans h2 h3
   exact_mod_cast h4
end Go.Proofs.YtdpaiiibndnanaaGreatDoor.Dl
