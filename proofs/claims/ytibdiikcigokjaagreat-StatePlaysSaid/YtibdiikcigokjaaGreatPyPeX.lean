/- Tables as plain data: pairs that rise by their keys; and what a map in whatever order has of them. -/
import Derived.Test.YtibdiikcigokjaaGreatPyFsB
import Derived.Test.YtibdiikcigokjaaGreatPyFsA
import Derived.Test.YtibdiikcigokjaaGreatPyTs
import Derived.Test.YtibdiikcigokjaaGreatPyFwB
import Derived.Test.YtibdiikcigokjaaGreatPyTc
import Derived.Test.YtibdiikcigokjaaGreatPyTb
namespace Go.Proofs.YtibdiikcigokjaaGreat
open Go.Proofs.Tryz (prog)
open List (map_append length_pos_of_mem pairwise_map filter_cons pairwise_singleton find?_some mem_of_find?_eq_some map_cons nodup_cons find?_cons find?_eq_none length_filter_le mem_singleton map_congr_left map_map map_nil mem_cons_self)
open Go Go.RowKit
set_option linter.unusedVariables false
set_option linter.unusedSimpArgs false
namespace Tb
open AF (dF bp bB bZ)
abbrev T (V:Type):=List (ByteArray×V)
section
variable {V:Type}
def get (l:T V) (k:ByteArray):Option V:=(l.find? fun p=>decide (p.1=k)).map (·.2)
def set (k:ByteArray) (v:V):T V→T V
 | []=>[(k,v)]
 | p::l=>if p.1=k then (k,v)::l else if dF k p.1 then (k,v)::p::l else p::set k v l
def del (l:T V) (k:ByteArray):T V:=l.filter fun p => !decide (p.1=k)
def Up (l:T V):Prop:=l.Pairwise fun p q=>dF p.1 q.1=true
theorem Up.nil:Up ([]:T V):=List.Pairwise.nil
theorem Up.tail {p:ByteArray×V} {l:T V} (h:Up (p::l)):Up l:=(List.pairwise_cons.1 h).2
theorem Up.head {p:ByteArray×V} {l:T V} (h:Up (p::l)):∀ q∈l,dF p.1 q.1=true:=(List.pairwise_cons.1 h).1
theorem pA {a b:ByteArray} (h:dF a b=true):a≠b:=fun e=>bp b (by rw [e] at h; exact h)
theorem Up.nodup {l:T V} (h:Up l):(l.map (·.1)).Nodup:=by
 unfold List.Nodup
 rw [pairwise_map]
 exact h.imp fun h=>pA h
theorem pY {k:ByteArray} {v:V} {q:ByteArray×V}:∀ {l:T V},q∈set k v l→q=(k,v)∨q∈l
 | [],h=>by simp only [set,mem_singleton] at h; exact .inl h
 | p::l,h=>by
   unfold set at h;split at h
   · rcases ay.1 h with h | h
     · exact .inl h
     · exact .inr (aB _ h)
   · split at h
     · rcases ay.1 h with h | h
       · exact .inl h
       · exact .inr h
     · rcases ay.1 h with h | h
       · exact .inr (h▸mem_cons_self ..)
       · rcases pY h with h | h
         · exact .inl h
         · exact .inr (aB _ h)
theorem Up.set (k:ByteArray) (v:V):∀ {l:T V},Up l→Up (set k v l)
 | [],_=>pairwise_singleton _ _
 | p::l,h=>by
   unfold Tb.set;split
   · rename_i e;refine List.pairwise_cons.2 ⟨fun q hq=>?_,h.tail⟩;rw [← e];exact h.head q hq
   · rename_i e;split
     · rename_i e2;refine List.pairwise_cons.2 ⟨fun q hq=>?_,h⟩
       rcases ay.1 hq with rfl | hq
       · exact e2
       · exact bB e2 (h.head q hq)
     · rename_i e2;refine List.pairwise_cons.2 ⟨fun q hq=>?_,Up.set k v h.tail⟩
       rcases pY hq with rfl | hq
       · exact bZ (fun hh=>e hh.symm) (by simpa using e2)
       · exact h.head q hq
theorem Up.del {l:T V} (h:Up l) (k:ByteArray):Up (del l k):=h.filter _
theorem kh {l:T V} {k:ByteArray}:get l k=none↔∀ p∈l,p.1≠k:=by
 unfold get
 rw [Option.map_eq_none_iff,find?_eq_none]
 exact ⟨fun h p hp=>by simpa using h p hp,fun h p hp=>by simpa using h p hp⟩
theorem gR {l:T V} {k:ByteArray} {v:V} (h:get l k=some v):(k,v)∈l:=by
 unfold get at h
 rw [Option.map_eq_some_iff] at h
 obtain ⟨p,hp,rfl⟩:=h
 have h1:=mem_of_find?_eq_some hp
 have h2:=find?_some hp
 simp only [decide_eq_true_eq] at h2
 rw [← h2]
 exact h1
theorem f9 {l:T V} (h:(l.map (·.1)).Nodup) {k:ByteArray} {v:V} (hm:(k,v)∈l):get l k=some v:=by
 induction l with
 | nil=>cases hm
 | cons p l ih=>
   simp only [map_cons,nodup_cons] at h;unfold get;rw [find?_cons];by_cases hp:p.1=k
   · rw [af hp]
     rcases ay.1 hm with rfl | hm
     · rfl
     · exact absurd (List.mem_map.2 ⟨(k,v),hm,rfl⟩) (by rw [← hp] at *; exact h.1)
   · rw [ae hp]
     rcases ay.1 hm with rfl | hm
     · exact absurd rfl hp
     · exact ih h.2 hm
theorem yY {l:T V} (h:(l.map (·.1)).Nodup) {k:ByteArray} {v:V}:get l k=some v↔(k,v)∈l:=⟨gR,f9 h⟩
theorem Up.ext:∀ {a b:T V},Up a→Up b→(∀ k,get a k=get b k)→a=b
 | [],[],_,_,_=>rfl
 | [],q::b,_,hb,h=>by
   have:=h q.1;rw [show get (q::b) q.1=some q.2 from f9 hb.nodup (mem_cons_self ..)] at this;cases this
 | p::a,[],ha,_,h=>by
   have:=h p.1;rw [show get (p::a) p.1=some p.2 from f9 ha.nodup (mem_cons_self ..)] at this;cases this
 | p::a,q::b,ha,hb,h=>by
   have h1:get (q::b) p.1=some p.2:=by rw [← h]; exact f9 ha.nodup (mem_cons_self ..)
   have h2:get (p::a) q.1=some q.2:=by rw [h]; exact f9 hb.nodup (mem_cons_self ..)
   have m1:=gR h1;have m2:=gR h2;have e:p=q:=by
    rcases ay.1 m1 with e | m1
    · exact e
    · rcases ay.1 m2 with e | m2
      · exact e.symm
      · exact absurd (bB (hb.head _ m1) (ha.head _ m2)) (bp _)
   subst e;congr 1;refine Up.ext ha.tail hb.tail fun k=>?_;have hk:=h k;unfold get at hk ⊢;by_cases hp:p.1=k
   · have na:a.find? (fun x=>decide (x.1=k))=none:=by
      rw [find?_eq_none];intro x hx;have:=pA (ha.head x hx);simp only [decide_eq_true_eq];exact fun e=>this (hp.trans e.symm)
     have nb:b.find? (fun x=>decide (x.1=k))=none:=by
      rw [find?_eq_none];intro x hx;have:=pA (hb.head x hx);simp only [decide_eq_true_eq];exact fun e=>this (hp.trans e.symm)
     rw [na,nb]
   · rw [find?_cons,find?_cons,ae hp] at hk;exact hk
theorem yX {k:ByteArray} {v:V} (q:ByteArray):∀ {l:T V},get (set k v l) q=if k=q then some v else get l q
 | []=>by
   unfold set get;by_cases h:k=q <;> simp [h]
 | p::l=>by
   unfold set;split
   · rename_i e;unfold get;by_cases h:k=q
     · simp [h]
     · have:¬ p.1=q:=by rw [e]; exact h
       simp [h,this]
   · rename_i e;split
     · unfold get;by_cases h:k=q <;> simp [h]
     · unfold get;by_cases hp:p.1=q
       · have:¬ k=q:=fun h=>e (hp.trans h.symm);simp [hp,this]
       · have ih:=yX (k:=k) (v:=v) q (l:=l);unfold get at ih;simp only [find?_cons,hp,decide_false];exact ih
theorem yZ {k:ByteArray} (q:ByteArray) {l:T V}:get (del l k) q=if k=q then none else get l q:=by
 unfold get del
 induction l with
 | nil=>simp
 | cons p l ih=>
   by_cases hp:p.1=k
   · have e1:(p::l).filter (fun p => !decide (p.1=k))=l.filter fun p => !decide (p.1=k):=by simp [filter_cons,hp]
     rw [e1,ih];by_cases h:k=q
     · simp [h]
     · have:¬ p.1=q:=fun e=>h (hp.symm.trans e);simp [h,this]
   · have e1:(p::l).filter (fun p => !decide (p.1=k))=p::l.filter fun p => !decide (p.1=k):=by simp [filter_cons,hp]
     rw [e1];by_cases hq:p.1=q
     · have:¬ k=q:=fun h=>hp (hq.trans h.symm);simp [hq,this]
     · rw [find?_cons,find?_cons,ae hq];exact ih
theorem mO (k:ByteArray) (v:V):∀ l:T V,(set k v l).length≤l.length+1
 | []=>av _
 | p::l=>by
   unfold set;split
   · exact Nat.le_succ _
   · split
     · exact av _
     · have:=mO k v l;simp only [ao];omega
theorem yj (l:T V) (k:ByteArray):(del l k).length≤l.length:=length_filter_le _ _
theorem CS {l:T V} {k:ByteArray} (h:get l k=none):del l k=l:=by
 rw [kh] at h
 exact List.filter_eq_self.2 fun p hp=>by simpa using h p hp
theorem vu {v:V} {k:ByteArray}:∀ {l:T V},Up l→(get l k).isSome=true→(set k v l).map (·.1)=l.map (·.1)
 | [],_,h=>by cases h
 | p::l,U,h=>by
   unfold set;split
   · rename_i e;rw [map_cons,map_cons,e]
   · rename_i e;have hl:(get l k).isSome=true:=by
      unfold get at h ⊢;rw [find?_cons,ae e] at h;exact h
     split
     · rename_i e2;exfalso
       cases hg:get l k with
       | none=>rw [hg] at hl; cases hl
       | some x=>exact bp _ (bB e2 (U.head _ (gR hg)))
     · rw [map_cons,map_cons,vu U.tail hl]
def nj (enc:V→Value) (m:List (ByteArray×Value)) (l:T V):Prop:=m.Perm (l.map fun p=>(p.1,enc p.2))∧Up l
theorem nj.nodup {enc:V→Value} {m:List (ByteArray×Value)} {l:T V} (h:nj enc m l):(m.map (·.1)).Nodup:=by
 have:=(h.1.map (·.1)).nodup_iff.2 (by rw [map_map]; exact h.2.nodup)
 exact this
theorem E8 {m n:List (ByteArray×Value)} (h:m.Perm n) (hn:(m.map (·.1)).Nodup) (k:ByteArray):me m k=me n k:=by
 have hn2:(n.map (·.1)).Nodup:=(h.map _).nodup_iff.1 hn
 show get m k=get n k
 cases hm:get m k with
 | none=>
   symm
   rw [kh] at hm ⊢;exact fun p hp=>hm p (h.mem_iff.2 hp)
 | some v=>exact (f9 hn2 (h.mem_iff.1 (gR hm))).symm
theorem xV {enc:V→Value}:∀ (l:T V) (k:ByteArray),me (l.map fun p=>(p.1,enc p.2)) k=(get l k).map enc
 | [],k=>rfl
 | p::l,k=>by
   have ih:=xV (enc:=enc) l k;unfold me get at ih ⊢;rw [map_cons,find?_cons,find?_cons];by_cases h:p.1=k
   · simp [h]
   · simp only [h,decide_false];exact ih
theorem nj.lk {enc:V→Value} {m:List (ByteArray×Value)} {l:T V} (h:nj enc m l) (k:ByteArray):me m k=(get l k).map enc:=by
 rw [E8 h.1 h.nodup,xV]
theorem px {m:List (ByteArray×Value)} {enc:V→Value} {l:T V} (hn:(m.map (·.1)).Nodup) (U:Up l) (h:∀ k,get m k=(get l k).map enc):nj enc m l:=by
 refine ⟨?_,U⟩
 have hn2:((l.map fun p=>(p.1,enc p.2)).map (·.1)).Nodup:=by rw [map_map]; exact U.nodup
 have nd:∀ {x:List (ByteArray×Value)},(x.map (·.1)).Nodup→x.Nodup:=fun h=>(List.pairwise_map.1 h).imp fun h e=>h (by rw [e])
 rw [List.perm_ext_iff_of_nodup (nd hn) (nd hn2)]
 rintro ⟨k,v⟩
 rw [← yY hn,h k,← xV (enc:=enc) l k]
 exact yY hn2
theorem zG {m:List (ByteArray×Value)} {k:ByteArray} {v:Value} (hn:(m.map (·.1)).Nodup):((ij m k v).map (·.1)).Nodup:=by
 unfold ij
 split
 · have:(m.map fun p=>if p.1=k then (k,v) else p).map (·.1)=m.map (·.1):=by
    rw [map_map];apply map_congr_left;intro p _;simp only [Function.comp];split
    · rename_i e; exact e.symm
    · rfl
   rw [this];exact hn
 · rename_i h;rw [map_append,List.nodup_append];refine ⟨hn,by simp,?_⟩;intro a ha b hb e;simp only [map_cons,map_nil,mem_singleton] at hb;obtain ⟨p,hp,rfl⟩:=List.mem_map.1 ha;have:=(List.any_eq_false.1 (Bool.eq_false_iff.2 h)) p hp;simp only [decide_eq_true_eq] at this;exact this (e.trans hb)
theorem CE {m:List (ByteArray×Value)} {k:ByteArray} {v:Value} (q:ByteArray):get (ij m k v) q=if k=q then some v else get m q:=by
 unfold ij
 split
 · rename_i h;by_cases hq:k=q
   · subst hq;rw [al rfl];obtain ⟨p,hp,hpk⟩:=List.any_eq_true.1 h;simp only [decide_eq_true_eq] at hpk;clear h;unfold get
     induction m with
     | nil=>cases hp
     | cons x m ih=>
       rw [map_cons,find?_cons];by_cases hx:x.1=k
       · simp [hx]
       · rcases ay.1 hp with rfl | hp
         · exact absurd hpk hx
         · simp only [hx,if_false,decide_false];exact ih hp
   · rw [ak hq];clear h;unfold get
     induction m with
     | nil=>rfl
     | cons x m ih=>
       rw [map_cons,find?_cons,find?_cons];by_cases hx:x.1=k
       · have h2:¬ x.1=q:=fun e=>hq (hx.symm.trans e);simp only [hx,if_true,hq,decide_false];exact ih
       · simp only [hx,if_false];by_cases h2:x.1=q
         · simp [h2]
         · simp only [h2,decide_false];exact ih
 · rename_i h;have hno:∀ p∈m,p.1≠k:=fun p hp e=>h (List.any_eq_true.2 ⟨p,hp,af e⟩);unfold get;rw [List.find?_append];by_cases hq:k=q
   · subst hq;have:m.find? (fun p=>decide (p.1=k))=none:=List.find?_eq_none.2 fun p hp=>by simpa using hno p hp
     simp [this]
   · simp [hq]
theorem nj.upd {enc:V→Value} {m:List (ByteArray×Value)} {l:T V} (h:nj enc m l) (k:ByteArray) (v:V):nj enc (ij m k (enc v)) (set k v l):=by
 refine px (zG h.nodup) (h.2.set k v) fun q=>?_
 rw [CE,yX]
 split
 · rfl
 · exact h.lk q
theorem nj.del {enc:V→Value} {m:List (ByteArray×Value)} {l:T V} (h:nj enc m l) (k:ByteArray):nj enc (iI m k) (del l k):=by
 refine px (h.nodup.sublist (List.filter_sublist.map _)) (h.2.del k) fun q=>?_
 have e:get (iI m k) q=if k=q then none else get m q:=yZ (V:=Value) q
 rw [e,yZ]
 split
 · rfl
 · exact h.lk q
theorem nj.new (enc:V→Value):nj enc [] ([]:T V):=⟨.nil,Up.nil⟩
theorem nj.len {enc:V→Value} {m:List (ByteArray×Value)} {l:T V} (h:nj enc m l):m.length=l.length:=by rw [h.1.length_eq,an]
theorem vt {ks:List ByteArray} (h:ks.Pairwise fun a b=>dF a b=true):fX ks=ks:=by
 unfold fX
 rw [List.mergeSort_of_pairwise]
 · rw [map_map]
   conv=>rhs; rw [← List.map_id ks]
   apply map_congr_left;intro s _
   rfl
 · rw [pairwise_map];refine h.imp fun {a b} hab=>?_;simp only [decide_eq_true_eq];exact List.le_of_lt ((AF.jX a b).1 hab)
theorem nj.keys {enc:V→Value} {m:List (ByteArray×Value)} {l:T V} (h:nj enc m l):fX (m.map (·.1))=l.map (·.1):=by
 rw [eP (h.1.map (·.1)),map_map]
 exact vt (by rw [pairwise_map]; exact h.2)
end
end Tb
end Go.Proofs.YtibdiikcigokjaaGreat
namespace Go.Proofs.YtibdiikcigokjaaGreat.TS
open Go.Proofs.Tryz (prog)
open List (map_append length_pos_of_mem pairwise_map filter_cons pairwise_singleton find?_some mem_of_find?_eq_some map_cons nodup_cons find?_cons find?_eq_none length_filter_le mem_singleton map_congr_left map_map map_nil mem_cons_self)
open Go Go.RowKit Go.MapKept
set_option linter.unusedVariables false
set_option linter.unusedSimpArgs false
theorem AQ {yv:Value} {cb mb:Nat} {m:List (ByteArray×Value)} {es:Array MapEntry} {clock:Nat} {h:Heap} (hm:dZ aN es clock m) (G:List ByteArray→List aG) (Out:Heap→Prop)
  (start:aD (pt cb (.cells #[.map (some mb)] 175 (0,0))::pt mb (.map es clock)::G []) h)
  (round:∀ (r:Nat) (o:Obj) done k h2,done.length<m.length→aD (pt cb (.cells #[.map (some mb)] 175 (0,0))::pt mb (.map es clock)::pt r o::G done) h2→
   cK prog yv [.string k] h2 fun r' h3=>∃ go,r'=.bool go∧(go=true→aD (pt cb (.cells #[.map (some mb)] 175 (0,0))::pt mb (.map es clock)::pt r o::G (done++[k])) h3)∧(go=false→Out h3))
  (fin:∀ ks h2,ks.Perm (m.map (·.1))→aD (pt cb (.cells #[.map (some mb)] 175 (0,0))::pt mb (.map es clock)::G ks) h2→Out h2) :
  aC prog 244 [yv,.pointer (some ⟨cb,0,none⟩)] h fun v h'=>v=.tuple #[]∧Out h':=by
 apply FX.ap
 unfold LP
 refine ⟨.map (some mb),by rw [bD start.get]; rfl,?_⟩
 show DM (.map (some mb)) _
 rw [bS]
 have hn:=hm.1.2.1
 refine g7 (k:=9) (e:=9) (by kernel_rfl) start (start.mv 1).get fun r h1 H1=>?_
 rw [bC]
 refine ⟨fun _ h2=>∃ seen done c0,aD (pt r (.mapIter (some mb) clock seen c0)::pt cb (.cells #[.map (some mb)] 175 (0,0))::pt mb (.map es clock)::G (done.map fun e:MapEntry=>kS e.key)) h2∧cA es seen done∧clock≤c0,
  fun _ h2=>bU ⟨r,0,none⟩ h2,⟨#[],[],clock,H1,cA.start es,av _⟩,?_⟩
 rintro _ h2 ⟨seen,done,c0,H2,hw,hc⟩
 have hmb:=(H2.mv 2).get
 refine kb H2 hmb hm.1.1 hc ?_ ?_
 · intro h0;refine .inl ⟨rfl,rfl,fin (done.map fun e:MapEntry=>kS e.key) h2 ?_ H2.drop⟩;rw [← hm.keysOf];exact (hw.fin h0).map _
 · intro e he h3 H3;have hmb3:=(H3.mv 2).get;have hee:=cA.mem he;refine .inr ⟨_,_,rfl,?_⟩;refine i4 H3 hmb3 hee hn ?_;refine ⟨kS e.key,e.val,by rw [← hm.strKey hee],?_⟩;have hdl:(done.map fun e:MapEntry=>kS e.key).length<m.length:=by
    have h1:=hw.perm.length_eq;have h2:0<(leftOf es seen).toList.length:=length_pos_of_mem he;rw [am] at h1;rw [an,← hm.size];simp only [Array.length_toList] at h1 h2;omega
   refine (round r (.mapIter (some mb) clock (seen.push e.born) clock) (done.map fun e:MapEntry=>kS e.key) (kS e.key) h3 hdl ((H3.mv 2).mv 2)).mono ?_;rintro r' h4 ⟨go,rfl,hgo,hstop⟩;rw [bE]
   cases go with
   | false=>exact ⟨rfl,hstop rfl⟩
   | true=>
     rw [az,aa];have H4:=(hgo rfl).mv 2;refine ⟨⟨seen.push e.born,done++[e],clock,?_,hw.step hn he,av _⟩,?_⟩
     · rw [map_append];exact H4
     · have a1:bU ⟨r,0,none⟩ h4=(leftOf es (seen.push e.born)).size:=by
        unfold bU;simp only [H4.get,(H4.mv 2).get]
       have a2:bU ⟨r,0,none⟩ h2=(leftOf es seen).size:=by
        unfold bU;simp only [H2.get,hmb]
       show bU ⟨r,0,none⟩ h4<bU ⟨r,0,none⟩ h2;rw [a1,a2];exact cA.less hn he
end Go.Proofs.YtibdiikcigokjaaGreat.TS
namespace Go.Proofs.YtibdiikcigokjaaGreat.TS
open Go.Proofs.Tryz (prog)
open List (map_append length_pos_of_mem pairwise_map filter_cons pairwise_singleton find?_some mem_of_find?_eq_some map_cons nodup_cons find?_cons find?_eq_none length_filter_le mem_singleton map_congr_left map_map map_nil mem_cons_self)
open Go Go.RowKit Go.MapKept
set_option linter.unusedVariables false
set_option linter.unusedSimpArgs false
theorem u41:prog.underlying 97=some (.slice 9):=by kernel_rfl
theorem src41:fF prog 97=true:=by kernel_rfl
theorem inf9:gQ prog 9 16=true:=by kernel_rfl
theorem AV {m0:Option Nat} {h:Heap} {F:List aG} (H:aD F h):aC prog 214 [.map m0] h fun v h'=>∃ b,v=.func (.func 244) #[] #[.pointer (some ⟨b,0,none⟩)]∧aD (pt b (.cells #[.map m0] 175 (0,0))::F) h':=by
 apply Ga.ap
 unfold LX
 exact aQ H fun b h1 H1=>⟨b,rfl,H1⟩
def listS (b:Nat) (done:List ByteArray):aG:=pS fun q:Option Addr×Nat×Nat=>dh [pt b (.cells #[.slice q.1 q.2.1 q.2.2] 97 (0,0)),aL 9 1 q.1 q.2.1 q.2.2 (done.map Value.string)]
theorem F184_spec {cb mb:Nat} {m:List (ByteArray×Value)} {h:Heap} {F:List aG} (H:aD (pt cb (.cells #[.map (some mb)] 175 (0,0))::bF aN mb m::F) h) (hmax:m.length<1099511627776) :
  aC prog 184 [.slice none 0 0,.func (.func 244) #[] #[.pointer (some ⟨cb,0,none⟩)]] h fun v h'=>∃ (a:Option Addr) (c:Nat) (ks:List ByteArray),ks.Perm (m.map (·.1))∧v=.slice a ks.length c∧aD (aL 9 1 a ks.length c (ks.map Value.string)::bF aN mb m::F) h':=by
 apply uP.ap
 unfold Gx
 refine aQ H fun b0 h1 H1=>?_
 obtain ⟨es,clock,hm,H2⟩:=ee (H1.mv 2)
 intro rec hrec hy
 refine kr ?_
 have H3:=(H2.push (.deferred (some []))).push (rec .ready none)
 rw [Array.size_push] at H3
 have Hs:aD (pt cb (.cells #[.map (some mb)] 175 (0,0))::pt mb (.map es clock)::pt (h1.size+1) (rec .ready none)::pt h1.size (.deferred (some []))::listS b0 []::F) ((h1.push (.deferred (some []))).push (rec .ready none)):=by
  have K:=bG 9 1 (H3.mv 3);have K2:=K.mv 1;have K3:aD ([pt b0 (.cells #[.slice none 0 0] 97 (0,0)),aL 9 1 none 0 0 []]++(pt (h1.size+1) (rec .ready none)::pt h1.size (.deferred (some []))::pt mb (.map es clock)::pt cb (.cells #[.map (some mb)] 175 (0,0))::F)) ((h1.push (.deferred (some []))).push (rec .ready none)):=K2;have K4:aD (listS b0 []::(pt (h1.size+1) (rec .ready none)::pt h1.size (.deferred (some []))::pt mb (.map es clock)::pt cb (.cells #[.map (some mb)] 175 (0,0))::F)) ((h1.push (.deferred (some []))).push (rec .ready none)):=bw.2 ⟨(none,0,0),K3.shut⟩;exact (((K4.mv 2).mv 2).mv 3).mv 4
 refine (AQ hm (fun done=>pt (h1.size+1) (rec .ready none)::pt h1.size (.deferred (some []))::listS b0 done::F)
  (fun h2=>∃ ks:List ByteArray,ks.Perm (m.map (·.1))∧aD (pt (h1.size+1) (rec .ready none)::pt h1.size (.deferred (some []))::listS b0 ks::pt mb (.map es clock)::F) h2) Hs ?_ ?_).mono ?_
 · intro r o done k h4 hdl H4;refine gI ?_;have hL:=(H4.mv 3).get;refine hy _ _ _ rfl hL ⟨k,rfl,hL,?_⟩;have H5:=((H4.mv 3).set (rec .busy none)).mv 5;obtain ⟨⟨la,ll,lc⟩,H6⟩:=bw.1 H5;have H7:=H6.open;obtain ⟨hll,hllc,hlcm⟩:=eZ H7.drop;simp only [an,Nat.mul_one] at hll hllc hlcm;refine ⟨.slice la ll lc,by rw [bD H7.get]; rfl,?_⟩;show aX (.slice la ll lc) _;rw [aF];refine aQ H7 fun b1 h8 H8=>?_;have hr:dw h8 (some ⟨b1,0,none⟩) [.string k]:=by
    intro j v hv;rw [dR H8.get];simpa using hv
   refine jH u41 src41 inf9 (H8.mv 2) (bV hr rfl) (by intro u hu; simp at hu; subst hu; rfl) (by omega) fun a' c' h9 _ H9=>?_;rw [aF];simp only [aS];refine dO (H9.mv 2) Nat.zero_lt_one (bP 1 0 (by decide)) fun h10 H10=>?_;have H11:=H10.mv 3;refine ⟨H11.get,true,rfl,fun _=>?_,fun e=>by cases e⟩;have H12:=((((H11.set (rec .ready none)).mv 3).drop).mv 2).mv 2;have H13:aD ([pt b0 (.cells #[.slice a' (ll+1) c'] 97 (0,0)),aL 9 1 a' (ll+1) c' ((done++[k]).map Value.string)]++(pt (h1.size+1) (rec .ready none)::pt cb (.cells #[.map (some mb)] 175 (0,0))::pt mb (.map es clock)::pt r o::pt h1.size (.deferred (some []))::F)) (h10.setIfInBounds (h1.size+1) (rec .ready none)):=by
    rw [map_append];exact H12
   have H14:aD (listS b0 (done++[k])::(pt (h1.size+1) (rec .ready none)::pt cb (.cells #[.map (some mb)] 175 (0,0))::pt mb (.map es clock)::pt r o::pt h1.size (.deferred (some []))::F)) (h10.setIfInBounds (h1.size+1) (rec .ready none)):=bw.2 ⟨(a',ll+1,c'),H13.shut⟩;exact ((((H14.mv 5).mv 2).mv 5).mv 5).mv 5
 · intro ks h4 hp H4;exact ⟨ks,hp,(((H4.mv 1).mv 4).mv 4).mv 4 |> fun hh=>(((H4.drop.mv 3).mv 3).mv 3)⟩
 · rintro v h4 ⟨_,ks,hp,H4⟩;refine ⟨.ready,none,H4.get,by decide,rfl,?_⟩;have H5:=(H4.set (rec .exhausted none)).mv 2;obtain ⟨⟨la,ll,lc⟩,H6⟩:=bw.1 H5;have H7:=H6.open;obtain ⟨hll,hllc,hlcm⟩:=eZ H7.drop;simp only [an,Nat.mul_one] at hll hllc hlcm;refine ⟨.slice la ll lc,by rw [bD H7.get]; rfl,?_⟩;show aX (.slice la ll lc) _;rw [aF];have H8:=H7.mv 3;subst hll;refine ⟨H8.get,la,lc,ks,hp,rfl,?_⟩;have H9:=(H8.set (.deferred none)).drop.drop;exact (df hm (((H9.mv 1).drop).mv 1)).mv 1
theorem F62_spec {cb mb:Nat} {m:List (ByteArray×Value)} {h:Heap} {F:List aG} (H:aD (pt cb (.cells #[.map (some mb)] 175 (0,0))::bF aN mb m::F) h) (hmax:m.length<1099511627776) :
  aC prog 62 [.func (.func 244) #[] #[.pointer (some ⟨cb,0,none⟩)]] h fun v h'=>∃ (a:Option Addr) (c:Nat),v=.slice a m.length c∧aD (aL 9 1 a m.length c ((fX (m.map (·.1))).map Value.string)::bF aN mb m::F) h':=by
 apply yu.ap
 unfold MS
 have step:aC prog 129 [.func (.func 244) #[] #[.pointer (some ⟨cb,0,none⟩)]] h fun v h'=>∃ (a:Option Addr) (c:Nat) (ks:List ByteArray),ks.Perm (m.map (·.1))∧v=.slice a ks.length c∧aD (aL 9 1 a ks.length c (ks.map Value.string)::bF aN mb m::F) h':=by
  apply uQ.ap;unfold GT;refine (F184_spec H hmax).mono ?_;rintro v h1 ⟨a,c,ks,hp,rfl,H1⟩;rw [aF];exact ⟨a,c,ks,hp,rfl,H1⟩
 refine step.mono ?_
 rintro v h1 ⟨a,c,ks,hp,rfl,H1⟩
 rw [aF]
 have hkl:ks.length=m.length:=by rw [hp.length_eq,an]
 cases a with
 | none=>
   have hk0:ks=[]:=by
    have h0:ks.map Value.string=[]:=aI H1;exact List.map_eq_nil_iff.1 h0
   subst hk0;have hm0:m.length=0:=by simpa using hkl.symm
   have hc:aC prog 130 [.slice none 0 c] h1 fun v h'=>v=.tuple #[]∧h'=h1:=by
    refine ⟨by kernel_rfl,fun w hw=>callsIn_wide.2 ((Tryz.slices_Sort_string_none none c w).mono ?_)⟩;rintro e w' ⟨rfl,rfl⟩;exact ⟨_,rfl,⟨rfl,hw⟩,.refl w'⟩
   refine hc.mono ?_;rintro v h2 ⟨rfl,rfl⟩;refine ⟨rfl,none,c,by rw [hm0]; rfl,?_⟩;rw [hm0,← eP hp,show fX []=[] from by simp [fX]];exact H1
 | some a=>
   obtain ⟨hl,⟨e1,_⟩ | ⟨b,cells,fr,e1,_⟩⟩:=cV H1
   · cases e1
   · simp only [Option.some.injEq] at e1;subst e1;refine (pk H1 (by omega)).mono ?_;rintro v h2 ⟨rfl,H2⟩;refine ⟨rfl,some ⟨b,0,none⟩,c,by rw [hkl],?_⟩;rw [← hkl,← eP hp];exact H2
end Go.Proofs.YtibdiikcigokjaaGreat.TS
