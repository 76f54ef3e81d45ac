/- What stays and is read; tables by numbers over owned maps. -/
import Derived.Test.YtmemjbiijclbdaaGreatMpFwB
import Derived.Test.YtmemjbiijclbdaaGreatMpTm
import Derived.Test.YtmemjbiijclbdaaGreatMpMLib
import Derived.Test.YtmemjbiijclbdaaGreatMpLvX
namespace Go.Proofs.YtmemjbiijclbdaaGreat
open Go.Proofs.Tryz (prog)
open List (mem_append mem_map map_append getElem?_map getElem?_take getElem?_eq_none pairwise_mergeSort mergeSort_perm length_pos_of_mem pairwise_map pairwise_singleton find?_some mem_of_find?_eq_some find?_cons find?_eq_none mem_singleton any_eq_true map_map mem_cons_self)
open Go Go.RowKit Go.MapKept
set_option linter.unusedVariables false
set_option linter.unusedSimpArgs false
def kh (R:Heap→Prop):aE:=fun r=>(∀ b x,r b=some x→x.2=true)∧∀ h,sub r h→R h
theorem BD (R:Heap→Prop):jx (kh R):=fun r h=>h.1
section
variable {F:List aE} {h:Heap} {R S:Heap→Prop}
theorem zn {r s:fu} (hd:lR r s) (H:sub (cN r s) h):sub s h:=fun b x hx=>H b x (gK hd hx)
theorem eV (H:aD (kh R::F) h):R h:=by
 obtain ⟨r,⟨r1,r2,hd,rfl,⟨_,ho⟩,h2⟩,hs⟩:=H
 exact ho h (qo hs)
theorem yA (H:aD (kh R::kh S::F) h):aD (kh (fun h=>R h∧S h)::F) h:=by
 obtain ⟨r,hr,hs⟩:=H
 refine ⟨r,fI ?_ (fun _ h=>h) (kJ hr),hs⟩
 rintro q ⟨r1,r2,hd,rfl,⟨p1,o1⟩,⟨p2,o2⟩⟩
 refine ⟨fun b x hx=>?_,fun h hs=>⟨o1 h (qo hs),o2 h (zn hd hs)⟩⟩
 unfold cN at hx
 cases h:r1 b with
 | some y=>rw [h] at hx; cases hx; exact p1 b _ h
 | none=>rw [h] at hx; exact p2 b x hx
theorem dX (hi:∀ h,R h→S h) (H:aD (kh R::F) h):aD (kh S::F) h:=H.imp fun r hr=>⟨hr.1,fun h hs=>hi h (hr.2 h hs)⟩
theorem qE (H:aD F h):aD (kh (fun _=>True)::F) h:=by
 obtain ⟨r,hr,hs⟩:=H
 obtain ⟨r1,r2,hd,e1,h1,h2⟩:=oq hr
 exact ⟨r,⟨r1,r2,hd,e1,⟨fun b x hx=>(by rw [h1 b] at hx; cases hx),fun h hs=>trivial⟩,h2⟩,hs⟩
theorem p8 {e sz:Nat} {a:Option Addr} {l c:Nat} {xs:List Value} (H:aD (aL e sz a l c xs::F) h):aD (kh (fun h=>dF h a xs)::F) h:=qD H
theorem nO (H:aD (kh R::F) h):aD (kh R::kh R::F) h:=H.dup (BD R)
end
def Bs (xs:List Nat) (v:Value) (h:Heap):Prop:=∃ (a:Option Addr) (c:Nat),v=.slice a xs.length c∧dF h a (xs.map nv)
section
variable {α:Type}
def cg (T:List (Int×α)) (k:Int):Option α:=(T.find? fun p=>decide (p.1=k)).map (·.2)
def bR (k:Int) (x:α):List (Int×α)→List (Int×α)
 | []=>[(k,x)]
 | p::T=>if p.1=k then (k,x)::T else if k<p.1 then (k,x)::p::T else p::bR k x T
def ru (k:Int) (T:List (Int×α)):List (Int×α):=T.filter fun p => !decide (p.1=k)
def gQ (T:List (Int×α)):Prop:=T.Pairwise fun p q=>p.1<q.1
theorem gQ.nodup {T:List (Int×α)} (h:gQ T):(T.map (·.1)).Nodup:=by
 rw [List.Nodup,pairwise_map]
 exact h.imp fun h e=>by omega
theorem cm (p:Int×α) (l:List (Int×α)) (j:Int):cg (p::l) j=if p.1=j then some p.2 else cg l j:=by
 unfold cg
 rw [find?_cons]
 by_cases h:p.1=j <;> simp [h]
theorem ij {T:List (Int×α)} {k:Int}:cg T k=none↔∀ p∈T,p.1≠k:=by
 unfold cg
 simp [find?_eq_none]
theorem fM {T:List (Int×α)} {k:Int} {x:α} (h:cg T k=some x):(k,x)∈T:=by
 unfold cg at h
 cases hf:T.find? (fun p=>decide (p.1=k)) with
 | none=>rw [hf] at h; cases h
 | some p=>
   rw [hf] at h;have h1:=mem_of_find?_eq_some hf;have h2:=find?_some hf;simp at h h2;rw [← h,← h2];exact h1
theorem cZ {T:List (Int×α)} (hu:gQ T) {k:Int} {x:α} (h:(k,x)∈T):cg T k=some x:=by
 induction T with
 | nil=>cases h
 | cons p T ih=>
   have hu2:=List.pairwise_cons.1 hu;rw [cm]
   rcases ay.1 h with rfl | h
   · rw [al rfl]
   · have:p.1≠k:=fun e=>by have:=hu2.1 _ h; simp only at this; omega
     rw [ak this,ih hu2.2 h]
theorem fQ (k:Int) (x:α):∀ T:List (Int×α),cg (bR k x T) k=some x
 | []=>by simp [bR,cm]
 | p::l=>by
   unfold bR;split
   · simp [cm]
   · split
     · simp [cm]
     · rename_i h _;rw [cm,ak h,fQ k x l]
theorem gP {k j:Int} (x:α) (h:k≠j):∀ T:List (Int×α),cg (bR k x T) j=cg T j
 | []=>by simp [bR,cm,h]
 | p::l=>by
   unfold bR;split
   · rename_i e;rw [cm,cm,ak h,ak (by rw [e]; exact h)]
   · split
     · rw [cm,ak h]
     · rw [cm,cm,gP x h l]
theorem il {k:Int} {x:α}:∀ {T:List (Int×α)},gQ T→gQ (bR k x T)
 | [],_=>pairwise_singleton ..
 | p::l,h=>by
   have h2:=List.pairwise_cons.1 h;unfold bR;split
   · rename_i e;exact List.pairwise_cons.2 ⟨fun q hq=>by have:=h2.1 q hq; simp only; omega,h2.2⟩
   · rename_i e;split
     · rename_i hl;refine List.pairwise_cons.2 ⟨fun q hq=>?_,h⟩
       rcases ay.1 hq with rfl | hq
       · exact hl
       · have:=h2.1 q hq;simp only;omega
     · rename_i hl;refine List.pairwise_cons.2 ⟨fun q hq=>?_,il h2.2⟩;have hm:q=(k,x)∨q∈l:=by
        clear h h2 e hl
        induction l with
        | nil=>simp [bR] at hq; exact .inl hq
        | cons r l ih=>
          unfold bR at hq;split at hq
          · rcases ay.1 hq with h | h
            · exact .inl h
            · exact .inr (aB _ h)
          · split at hq
            · rcases ay.1 hq with h | h
              · exact .inl h
              · exact .inr h
            · rcases ay.1 hq with h | h
              · exact .inr (by rw [h]; exact mem_cons_self ..)
              · rcases ih h with h | h
                · exact .inl h
                · exact .inr (aB _ h)
       rcases hm with rfl | hq
       · simp only;omega
       · exact h2.1 q hq
theorem cY {k:Int} {x:α} {T:List (Int×α)} (hu:gQ T) {p:Int×α}:p∈bR k x T↔p=(k,x)∨(p.1≠k∧p∈T):=by
 obtain ⟨j,y⟩:=p
 by_cases h:j=k
 · subst h;constructor
   · intro hm;have h1:=cZ (il hu) hm;rw [fQ] at h1;cases h1;exact .inl rfl
   · rintro (h | ⟨h,_⟩)
     · rw [h]; exact fM (fQ _ _ _)
     · exact absurd rfl h
 · constructor
   · intro hm;have h1:=cZ (il hu) hm;rw [gP _ (Ne.symm h)] at h1;exact .inr ⟨h,fM h1⟩
   · rintro (h1 | ⟨_,h1⟩)
     · cases h1; exact absurd rfl h
     · refine fM ?_;rw [gP _ (Ne.symm h)];exact cZ hu h1
theorem EF {k:Int} {T:List (Int×α)} (h:gQ T):gQ (ru k T):=List.Pairwise.filter _ h
theorem yx:∀ {T U:List (Int×α)},gQ T→gQ U→(∀ p,p∈T↔p∈U)→T=U
 | [],[],_,_,_=>rfl
 | [],q::U,_,_,h=>by have:=(h q).2 (mem_cons_self ..); cases this
 | p::T,[],_,_,h=>by have:=(h p).1 (mem_cons_self ..); cases this
 | p::T,q::U,hT,hU,h=>by
   have t2:=List.pairwise_cons.1 hT;have u2:=List.pairwise_cons.1 hU;have hp:=(h p).1 (mem_cons_self ..);have hq:=(h q).2 (mem_cons_self ..);have e:p=q:=by
    rcases ay.1 hp with e | hp
    · exact e
    · rcases ay.1 hq with e | hq
      · exact e.symm
      · have:=t2.1 q hq;have:=u2.1 p hp;omega
   subst e;congr 1;refine yx t2.2 u2.2 fun r=>⟨fun hr=>?_,fun hr=>?_⟩
   · rcases ay.1 ((h r).1 (aB _ hr)) with e | h1
     · have:=t2.1 r hr; rw [e] at this; omega
     · exact h1
   · rcases ay.1 ((h r).2 (aB _ hr)) with e | h1
     · have:=u2.1 r hr; rw [e] at this; omega
     · exact h1
structure dr (R:α→Value→Heap→Prop) (m:List (Int×Value)) (T:List (Int×α)) (h:Heap):Prop where
 up:gQ T
 keys:∀ k,k∈m.map (·.1)↔k∈T.map (·.1)
 vals:∀ k v,(k,v)∈m→∃ x,(k,x)∈T∧R x v h
def bP (R:α→Value→Heap→Prop) (b:Nat) (T:List (Int×α)):aE:=mu fun m:List (Int×Value)=>cr [bF (bN .i64) b m,kh (dr R m T)]
variable {R:α→Value→Heap→Prop} {b:Nat} {T:List (Int×α)} {F:List aE} {h:Heap}
theorem eg (H:aD (bP R b T::F) h):∃ m,aD (bF (bN .i64) b m::kh (dr R m T)::F) h:=by
 obtain ⟨m,H2⟩:=bg.1 H
 exact ⟨m,H2.open⟩
theorem gj {m:List (Int×Value)} (H:aD (bF (bN .i64) b m::kh (dr R m T)::F) h):aD (bP R b T::F) h:=
 bg.2 ⟨m,aD.shut (m:=[_,_]) H⟩
theorem qX {κ:Type} [DecidableEq κ] {m:List (κ×Value)} {k:κ} {v:Value} (h:kp m k=some v):(k,v)∈m:=by
 unfold kp at h
 cases hf:m.find? (fun p=>decide (p.1=k)) with
 | none=>rw [hf] at h; cases h
 | some p=>
   rw [hf] at h;have h1:=mem_of_find?_eq_some hf;have h2:=find?_some hf;simp at h h2;rw [← h,← h2];exact h1
theorem BW {κ:Type} [DecidableEq κ] {m:List (κ×Value)} {k:κ} (h:kp m k=none):k∉m.map (·.1):=by
 unfold kp at h
 rw [Option.map_eq_none_iff,find?_eq_none] at h
 intro hm
 obtain ⟨p,hp,e⟩:=List.mem_map.1 hm
 have:=h p hp
 simp [e] at this
theorem dr.look {m:List (Int×Value)} (I:dr R m T h) (k:Int):(kp m k=none∧cg T k=none)∨∃ v x,kp m k=some v∧cg T k=some x∧R x v h:=by
 cases hl:kp m k with
 | none=>
   refine .inl ⟨rfl,?_⟩;rw [ij];intro p hp e;exact BW hl ((I.keys k).2 (List.mem_map.2 ⟨p,hp,e⟩))
 | some v=>
   obtain ⟨x,hx,hr⟩:=I.vals k v (qX hl);exact .inr ⟨v,x,rfl,cZ I.up hx,hr⟩
theorem nD {κ:Type} [DecidableEq κ] {m:List (κ×Value)} {k:κ} {v:Value} {p:κ×Value}:p∈gt m k v↔p=(k,v)∨(p.1≠k∧p∈m):=by
 unfold gt
 split
 · rename_i ha;rw [mem_map];constructor
   · rintro ⟨q,hq,rfl⟩;by_cases e:q.1=k
     · rw [al e]; exact .inl rfl
     · rw [ak e]; exact .inr ⟨e,hq⟩
   · rintro (rfl | ⟨hne,hp⟩)
     · rw [any_eq_true] at ha;obtain ⟨q,hq,e⟩:=ha;exact ⟨q,hq,al (by simpa using e)⟩
     · exact ⟨p,hp,ak hne⟩
 · rename_i ha;rw [mem_append,mem_singleton];constructor
   · rintro (hp | rfl)
     · refine .inr ⟨fun e=>ha ?_,hp⟩;rw [any_eq_true];exact ⟨p,hp,by simpa using e⟩
     · exact .inl rfl
   · rintro (rfl | ⟨_,hp⟩)
     · exact .inr rfl
     · exact .inl hp
theorem dr.set {m:List (Int×Value)} (I:dr R m T h) {k:Int} {v:Value} {x:α} (hr:R x v h):dr R (gt m k v) (bR k x T) h:=by
 refine ⟨il I.up,fun j=>?_,fun j u hu=>?_⟩
 · by_cases e:j=k
   · subst e;constructor
     · intro _; exact List.mem_map.2 ⟨_,(cY I.up).2 (.inl rfl),rfl⟩
     · intro _; exact List.mem_map.2 ⟨_,nD.2 (.inl rfl),rfl⟩
   · constructor
     · intro hj;obtain ⟨p,hp,rfl⟩:=List.mem_map.1 hj
       rcases nD.1 hp with rfl | ⟨_,hp⟩
       · exact absurd rfl e
       · obtain ⟨q,hq,e2⟩:=List.mem_map.1 ((I.keys p.1).1 (List.mem_map.2 ⟨p,hp,rfl⟩));exact List.mem_map.2 ⟨q,(cY I.up).2 (.inr ⟨by rw [e2]; exact e,hq⟩),e2⟩
     · intro hj;obtain ⟨p,hp,rfl⟩:=List.mem_map.1 hj
       rcases (cY I.up).1 hp with rfl | ⟨_,hp⟩
       · exact absurd rfl e
       · obtain ⟨q,hq,e2⟩:=List.mem_map.1 ((I.keys p.1).2 (List.mem_map.2 ⟨p,hp,rfl⟩));exact List.mem_map.2 ⟨q,nD.2 (.inr ⟨by rw [e2]; exact e,hq⟩),e2⟩
 · rcases nD.1 hu with h1 | ⟨h1,h2⟩
   · cases h1;exact ⟨x,(cY I.up).2 (.inl rfl),hr⟩
   · obtain ⟨y,hy,hr2⟩:=I.vals j u h2;exact ⟨y,(cY I.up).2 (.inr ⟨h1,hy⟩),hr2⟩
theorem dr.del {m:List (Int×Value)} (I:dr R m T h) (k:Int):dr R (iX m k) (ru k T) h:=by
 refine ⟨EF I.up,fun j=>?_,fun j u hu=>?_⟩
 · constructor
   · intro hj;obtain ⟨p,hp,rfl⟩:=List.mem_map.1 hj;have hp2:=List.mem_filter.1 hp;obtain ⟨q,hq,e2⟩:=List.mem_map.1 ((I.keys p.1).1 (List.mem_map.2 ⟨p,hp2.1,rfl⟩));exact List.mem_map.2 ⟨q,List.mem_filter.2 ⟨hq,by rw [e2]; exact hp2.2⟩,e2⟩
   · intro hj;obtain ⟨p,hp,rfl⟩:=List.mem_map.1 hj;have hp2:=List.mem_filter.1 hp;obtain ⟨q,hq,e2⟩:=List.mem_map.1 ((I.keys p.1).2 (List.mem_map.2 ⟨p,hp2.1,rfl⟩));exact List.mem_map.2 ⟨q,List.mem_filter.2 ⟨hq,by rw [e2]; exact hp2.2⟩,e2⟩
 · have hu2:=List.mem_filter.1 hu;obtain ⟨y,hy,hr2⟩:=I.vals j u hu2.1;exact ⟨y,List.mem_filter.2 ⟨hy,hu2.2⟩,hr2⟩
theorem dr.nil:dr R [] [] h:=⟨List.Pairwise.nil,fun k=>Iff.rfl,fun k v hv=>by cases hv⟩
theorem j8 (H:aD (pt b (.map #[] 0)::F) h):aD (bP R b []::F) h:=
 gj ((dX (fun _ _=>dr.nil) (qE ((qO (bN .i64) H)))).mv 1)
theorem jk {κ:Type} {E:mL κ} {m:List (κ×Value)} (H:aD (bF E b m::F) h):(m.map (·.1)).Nodup:=by
 obtain ⟨es,clock,hm,_⟩:=cx H
 exact hm.nodup
theorem nH (H:aD (bP R b T::F) h):gQ T:=by
 obtain ⟨m,H2⟩:=eg H
 exact (eV (H2.mv 1)).up
theorem dr.perm {m:List (Int×Value)} (I:dr R m T h) (hn:(m.map (·.1)).Nodup):(m.map (·.1)).Perm (T.map (·.1)):=
 (List.perm_ext_iff_of_nodup hn I.up.nodup).2 I.keys
theorem dr.length {m:List (Int×Value)} (I:dr R m T h) (hn:(m.map (·.1)).Nodup):m.length=T.length:=by
 have:=(I.perm hn).length_eq
 simpa using this
theorem mh {P:Program} {ty kt et:TypeId} {k:Int} {v:Value} {x:α} {K:Heap→Prop} (hT:P.underlying ty=some (.map kt et)) (hd:P.underlying kt=some (.int .i64)) (H:aD (bP R b T::kh (R x v)::F) h)
  (hK:∀ h',aD (bP R b (bR k x T)::F) h'→K h'):fW P (Instr.mapUpdate ty (.map (some b)) (.int .i64 k) v) h K:=by
 obtain ⟨m,H2⟩:=eg H
 refine fP (E:=bN .i64) (k:=k) hT hd H2 fun h' H3=>hK h' (gj (m:=gt m k v) ?_)
 exact (dX (fun _ hh=>hh.1.set hh.2) (yA (H3.ordT 3 [1,2,0]))).mv 1
end
def kI:Value→Int
 | .int _ n=>n
 | _=>0
theorem dG.intKey {es:Array MapEntry} {clock:Nat} {m:List (Int×Value)} (hm:dG (bN .i64) es clock m) {e:MapEntry} (he:e∈es.toList):e.key=.int .i64 (kI e.key):=by
 have:(e.key,e.val)∈es.toList.map (fun e:MapEntry=>(e.key,e.val)):=List.mem_map.2 ⟨e,he,rfl⟩
 rw [hm.2] at this
 obtain ⟨p,_,hp⟩:=List.mem_map.1 this
 have h1:e.key=.int .i64 p.1:=(congrArg Prod.fst hp).symm
 rw [h1]
 rfl
theorem dG.keysI {es:Array MapEntry} {clock:Nat} {m:List (Int×Value)} (hm:dG (bN .i64) es clock m):es.toList.map (fun e:MapEntry=>kI e.key)=m.map (·.1):=by
 have:=congrArg (List.map fun p:Value×Value=>kI p.1) hm.2
 simpa [map_map,Function.comp_def,bN,kI] using this
theorem dG.pairsI {es:Array MapEntry} {clock:Nat} {m:List (Int×Value)} (hm:dG (bN .i64) es clock m):es.toList.map (fun e:MapEntry=>(kI e.key,e.val))=m:=by
 have:=congrArg (List.map fun p:Value×Value=>(kI p.1,p.2)) hm.2
 simpa [map_map,Function.comp_def,bN,kI] using this
theorem lE {P:Program} {S:Type} {ty:TypeId} {p mb:Nat} {m:List (Int×Value)} {es:Array MapEntry} {clock:Nat} (hm:dG (bN .i64) es clock m) (st:List (Int×Value)→S) {G:List (Int×Value)→List aE} {End:S→Heap→Prop} {Body:(S→Heap→Prop)→S→Value→Heap→Prop} {h:Heap}
  (start:aD (pt p (.mapIter (some mb) clock #[] clock)::pt mb (.map es clock)::G []) h)
  (fin:∀ done h',done.Perm m→aD (pt mb (.map es clock)::G done) h'→End (st done) h')
  (body:∀ (o:Obj) done k v h' (again:S→Heap→Prop),(∃ rest,(done++(k,v)::rest).Perm m)→aD (pt p o::pt mb (.map es clock)::G done) h'→
   (∀ h'',aD (pt p o::pt mb (.map es clock)::G (done++[(k,v)])) h''→again (st (done++[(k,v)])) h'')→Body again (st done) (.tuple #[.int .i64 k,v]) h') :
  aZ (fun again (s:S) h3=>aX P (Instr.next (.pointer (some ⟨p,0,none⟩)) false ty) h3 fun r2 h4=>(r2=.tuple #[.bool false]∧End s h4)∨
   (∃ k0 x1:Value,r2=.tuple #[.bool true,k0,x1]∧aX P (Instr.entry (.pointer (some ⟨p,0,none⟩))) h4 fun r3 h5=>Body again s r3 h5)) (st []) h:=by
 have hn:=hm.1.2.1
 refine ⟨fun s h2=>∃ seen done c0,s=st (done.map fun e:MapEntry=>(kI e.key,e.val))∧aD (pt p (.mapIter (some mb) clock seen c0)::pt mb (.map es clock)::G (done.map fun e:MapEntry=>(kI e.key,e.val))) h2∧cF es seen done∧clock≤c0,
  fun _ h2=>bU ⟨p,0,none⟩ h2,⟨#[],[],clock,rfl,start,cF.start es,av _⟩,?_⟩
 rintro _ h2 ⟨seen,done,c0,rfl,H2,hw,hc⟩
 have hmb:=(H2.mv 1).get
 refine kn H2 hmb hm.1.1 hc ?_ ?_
 · intro h0;refine .inl ⟨rfl,fin (done.map fun e:MapEntry=>(kI e.key,e.val)) h2 ?_ H2.drop⟩;rw [← hm.pairsI];exact (hw.fin h0).map _
 · intro e he h3 H3;have hmb3:=(H3.mv 1).get;have hee:=cF.mem he;refine .inr ⟨_,_,rfl,?_⟩;refine i6 H3 hmb3 hee hn ?_;rw [hm.intKey hee];refine body (.mapIter (some mb) clock (seen.push e.born) clock) (done.map fun e:MapEntry=>(kI e.key,e.val)) (kI e.key) e.val h3 _ ?_ H3 fun h4 H4=>⟨⟨seen.push e.born,done++[e],clock,?_,?_,hw.step hn he,av _⟩,?_⟩
   · refine ⟨(leftOf es (seen.push e.born)).toList.map fun e:MapEntry=>(kI e.key,e.val),?_⟩;have hp:=(hw.step hn he).perm.map fun e:MapEntry=>(kI e.key,e.val)
     rw [hm.pairsI] at hp;simpa using hp
   · rw [map_append]
     rfl
   · rw [map_append];exact H4
   · have a1:bU ⟨p,0,none⟩ h4=(leftOf es (seen.push e.born)).size:=by
      unfold bU;simp only [H4.get,(H4.mv 1).get]
     have a2:bU ⟨p,0,none⟩ h2=(leftOf es seen).size:=by
      unfold bU;simp only [H2.get,hmb]
     show bU ⟨p,0,none⟩ h4<bU ⟨p,0,none⟩ h2;rw [a1,a2];exact cF.less hn he
def fj (l:List Int):List Int:=l.mergeSort fun x y=>decide (x≤y)
theorem mZ (l:List Int):(fj l).Perm l:=mergeSort_perm _ _
theorem Bq {l:List Int} {m:List Int} (hp:l.Perm m) (hm:m.Pairwise (· < ·)):fj l=m:=by
 have tr:∀ x y z:Int,decide (x≤y)=true→decide (y≤z)=true→decide (x≤z)=true:=fun x y z h1 h2=>by
  simp only [decide_eq_true_eq] at h1 h2 ⊢;omega
 have to:∀ x y:Int,(decide (x≤y)||decide (y≤x))=true:=fun x y=>by
  simp only [Bool.or_eq_true,decide_eq_true_eq];omega
 refine List.Perm.eq_of_pairwise (le:=fun x y=>decide (x≤y)=true) ?_ (pairwise_mergeSort tr to _) (hm.imp fun h=>by simp only [decide_eq_true_eq]; omega) ((mergeSort_perm _ _).trans hp)
 intro x y _ _ h1 h2
 simp only [decide_eq_true_eq] at h1 h2
 omega
theorem Jy:prog.underlying 128=some (.slice 2):=by kernel_rfl
theorem Bo:fS prog 128=true:=by kernel_rfl
theorem GX:ig prog 2 8=true:=by kernel_rfl
open Go.Sort in
theorem tL {h:Heap} {F:List aE} {a:Option Addr} {c:Nat} {zs:List Int} (H:aD (aL 2 1 a zs.length c (zs.map iv)::F) h) (hsz:zs.length<4611686018427387904) :
  aC prog 150 [.slice a zs.length c] h fun v h'=>v=.tuple #[]∧aD (aL 2 1 a zs.length c ((fj zs).map iv)::F) h':=by
 refine ⟨by kernel_rfl,fun w hw=>?_⟩
 subst hw
 obtain ⟨hl,⟨rfl,h0,rfl,h1,H2⟩ | ⟨b,cells,fr,rfl,hlc,hcm,hcs,hfr,ht,H2⟩⟩:=dP H
 · have hz:zs=[]:=List.map_eq_nil_iff.1 h1;subst hz;refine callsIn_wide.2 ((Tryz.slices_Sort_int150_none none 0 w).mono ?_);rintro e w' ⟨rfl,rfl⟩;refine ⟨_,rfl,⟨rfl,?_⟩,.refl _⟩;rw [show fj []=[] from by simp [fj]];exact H
 · have hb:=H2.get;have hlt:=(Array.getElem?_eq_some_iff.1 hb).1;have hH:Go.Sort.Holds (Value.int .i64) w b 0 zs.toArray:=by
    intro j hj;simp only [List.size_toArray] at hj;have hcj:cells[j]? = some (.int .i64 zs[j]):=by
     have h2:(cells.toList.take (zs.length*1))[j]? = (zs.map iv)[j]? := by rw [ht]
     rw [getElem?_take,al (by omega),getElem?_map,ah hj] at h2;simpa [iv] using h2
    refine ⟨?_,?_⟩
    · rw [dR,bj hb,Nat.zero_add,hcj];simp [hj]
    · rw [gV,gW,hb];have hjs:j<cells.size:=by
       rw [Array.getElem?_eq_some_iff] at hcj;exact hcj.1
      have:=hfr j hjs;obtain ⟨lo,hi⟩:=fr;simp only at this ⊢;simp;omega
   refine callsIn_wide.2 ((Tryz.slices_Sort_int150 b 0 c zs w hH hlt hsz).mono ?_);rintro e w' ⟨rfl,n,os,rfl⟩;refine ⟨_,rfl,⟨rfl,?_⟩,⟨rfl,rfl,rfl⟩⟩;have hD:(zs.mergeSort fun x y=>decide (x≤y))=fj zs:=rfl;rw [hD];have hDl:(fj zs).length=zs.length:=(mZ zs).length_eq;have hup:aD (pt b (.cells (putCells (Value.int .i64) 0 (fj zs).toArray cells) 2 fr)::F) (grow (putRow (Value.int .i64) (Sort.ahead w n) b 0 (fj zs).toArray) os).heap:=by
    refine H2.upd _ ?_ ?_
    · show ((w.heap.modify b (onCells (putCells (Value.int .i64) 0 (fj zs).toArray)))++os)[b]? = _;rw [Array.getElem?_append_left (by simpa using hlt),Array.getElem?_modify];simp [hb,onCells]
    · intro k hk hks;show ((w.heap.modify b (onCells (putCells (Value.int .i64) 0 (fj zs).toArray)))++os)[k]? = _;rw [Array.getElem?_append_left (by simpa using hks),Array.getElem?_modify];simp [Ne.symm hk]
   have hcsz:(putCells (Value.int .i64) 0 (fj zs).toArray cells).size=cells.size:=by simp [putCells]
   refine fB hup (by rw [hcsz]; exact hfr) hlc hcm (by rw [hcsz]; exact hcs) ?_;apply List.ext_getElem?;intro j;rw [getElem?_take,getElem?_map];by_cases hj:j<zs.length
   · rw [al (by omega),ah (by omega:j<(fj zs).length)];have hjc:j<cells.size:=by omega
     simp [putCells,hjc,hDl,hj,iv]
   · rw [ak (by omega),getElem?_eq_none (by omega:(fj zs).length≤j)]
     rfl
theorem qt {a b:List Int} (h:a.Perm b):fj a=fj b:=by
 have tr:∀ x y z:Int,decide (x≤y)=true→decide (y≤z)=true→decide (x≤z)=true:=fun x y z h1 h2=>by
  simp only [decide_eq_true_eq] at h1 h2 ⊢;omega
 have to:∀ x y:Int,(decide (x≤y)||decide (y≤x))=true:=fun x y=>by
  simp only [Bool.or_eq_true,decide_eq_true_eq];omega
 refine List.Perm.eq_of_pairwise (le:=fun x y=>decide (x≤y)=true) ?_ (pairwise_mergeSort tr to _) (pairwise_mergeSort tr to _) (((mergeSort_perm _ _).trans h).trans (mergeSort_perm _ _).symm)
 intro x y _ _ h1 h2
 simp only [decide_eq_true_eq] at h1 h2
 omega
def ow (kb tb mb:Nat) (a:Option Addr) (c:Nat) (ty:TypeId) (ks:List Int):aE:=
 cr [pt kb (.cells #[.slice a ks.length c] 128 (0,0)),pt tb (.cells #[.map (some mb)] ty (0,0)),aL 2 1 a ks.length c (ks.map iv)]
theorem AA {yv:Value} {cb mb:Nat} {m:List (Int×Value)} {es:Array MapEntry} {clock:Nat} {h:Heap} (hm:dG (bN .i64) es clock m) (G:List Int→List aE) (Out:Heap→Prop)
  (start:aD (pt cb (.cells #[.map (some mb)] 78 (0,0))::pt mb (.map es clock)::G []) h)
  (round:∀ (r:Nat) (o:Obj) done k h2,done.length<m.length→aD (pt cb (.cells #[.map (some mb)] 78 (0,0))::pt mb (.map es clock)::pt r o::G done) h2→
   cB prog yv [.int .i64 k] h2 fun r' h3=>∃ go,r'=.bool go∧(go=true→aD (pt cb (.cells #[.map (some mb)] 78 (0,0))::pt mb (.map es clock)::pt r o::G (done++[k])) h3)∧(go=false→Out h3))
  (fin:∀ ks h2,ks.Perm (m.map (·.1))→aD (pt cb (.cells #[.map (some mb)] 78 (0,0))::pt mb (.map es clock)::G ks) h2→Out h2) :
  aC prog 151 [yv,.pointer (some ⟨cb,0,none⟩)] h fun v h'=>v=.tuple #[]∧Out h':=by
 apply FG.ap
 unfold Lg
 refine ⟨.map (some mb),by rw [bj start.get]; rfl,?_⟩
 show DM (.map (some mb)) _
 rw [bY]
 have hn:=hm.1.2.1
 refine eN (k:=2) (e:=31) (by kernel_rfl) start (start.mv 1).get fun r h1 H1=>?_
 rw [bD]
 refine ⟨fun _ h2=>∃ seen done c0,aD (pt r (.mapIter (some mb) clock seen c0)::pt cb (.cells #[.map (some mb)] 78 (0,0))::pt mb (.map es clock)::G (done.map fun e:MapEntry=>kI e.key)) h2∧cF es seen done∧clock≤c0,
  fun _ h2=>bU ⟨r,0,none⟩ h2,⟨#[],[],clock,H1,cF.start es,av _⟩,?_⟩
 rintro _ h2 ⟨seen,done,c0,H2,hw,hc⟩
 have hmb:=(H2.mv 2).get
 refine kn H2 hmb hm.1.1 hc ?_ ?_
 · intro h0;refine .inl ⟨rfl,rfl,fin (done.map fun e:MapEntry=>kI e.key) h2 ?_ H2.drop⟩;rw [← hm.keysI];exact (hw.fin h0).map _
 · intro e he h3 H3;have hmb3:=(H3.mv 2).get;have hee:=cF.mem he;refine .inr ⟨_,_,rfl,?_⟩;refine i6 H3 hmb3 hee hn ?_;refine ⟨kI e.key,e.val,by rw [← hm.intKey hee],?_⟩;have hdl:(done.map fun e:MapEntry=>kI e.key).length<m.length:=by
    have h1:=hw.perm.length_eq;have h2:0<(leftOf es seen).toList.length:=length_pos_of_mem he;rw [am] at h1;rw [an,← hm.size];simp only [Array.length_toList] at h1 h2;omega
   refine (round r (.mapIter (some mb) clock (seen.push e.born) clock) (done.map fun e:MapEntry=>kI e.key) (kI e.key) h3 hdl ((H3.mv 2).mv 2)).mono ?_;rintro r' h4 ⟨go,rfl,hgo,hstop⟩;rw [cd]
   cases go with
   | false=>exact ⟨rfl,hstop rfl⟩
   | true=>
     rw [az,aa];have H4:=(hgo rfl).mv 2;refine ⟨⟨seen.push e.born,done++[e],clock,?_,hw.step hn he,av _⟩,?_⟩
     · rw [map_append];exact H4
     · have a1:bU ⟨r,0,none⟩ h4=(leftOf es (seen.push e.born)).size:=by
        unfold bU;simp only [H4.get,(H4.mv 2).get]
       have a2:bU ⟨r,0,none⟩ h2=(leftOf es seen).size:=by
        unfold bU;simp only [H2.get,hmb]
       show bU ⟨r,0,none⟩ h4<bU ⟨r,0,none⟩ h2;rw [a1,a2];exact cF.less hn he
theorem Cx {m0:Option Nat} {h:Heap} {F:List aE} (H:aD F h):aC prog 99 [.map m0] h fun v h'=>∃ b,v=.func (.func 151) #[] #[.pointer (some ⟨b,0,none⟩)]∧aD (pt b (.cells #[.map m0] 78 (0,0))::F) h':=by
 apply Hu.ap
 unfold Mm
 exact aQ H fun b h1 H1=>⟨b,rfl,H1⟩
def mR (b:Nat) (done:List Int):aE:=mu fun q:Option Addr×Nat×Nat=>cr [pt b (.cells #[.slice q.1 q.2.1 q.2.2] 128 (0,0)),aL 2 1 q.1 q.2.1 q.2.2 (done.map iv)]
theorem yd {cb mb:Nat} {m:List (Int×Value)} {h:Heap} {F:List aE} (H:aD (pt cb (.cells #[.map (some mb)] 78 (0,0))::bF (bN .i64) mb m::F) h) (hmax:m.length<1099511627776) :
  aC prog 185 [.slice none 0 0,.func (.func 151) #[] #[.pointer (some ⟨cb,0,none⟩)]] h fun v h'=>∃ (a:Option Addr) (c:Nat) (ks:List Int),ks.Perm (m.map (·.1))∧v=.slice a ks.length c∧aD (aL 2 1 a ks.length c (ks.map iv)::bF (bN .i64) mb m::F) h':=by
 apply yZ.ap
 unfold IP
 refine aQ H fun b0 h1 H1=>?_
 obtain ⟨es,clock,hm,H2⟩:=cx (H1.mv 2)
 intro rec hrec hy
 refine jA ?_
 have H3:=(H2.push (.deferred (some []))).push (rec .ready none)
 rw [Array.size_push] at H3
 have Hs:aD (pt cb (.cells #[.map (some mb)] 78 (0,0))::pt mb (.map es clock)::pt (h1.size+1) (rec .ready none)::pt h1.size (.deferred (some []))::mR b0 []::F) ((h1.push (.deferred (some []))).push (rec .ready none)):=by
  have K:=bE 2 1 (H3.mv 3);have K2:=K.mv 1;have K3:aD ([pt b0 (.cells #[.slice none 0 0] 128 (0,0)),aL 2 1 none 0 0 []]++(pt (h1.size+1) (rec .ready none)::pt h1.size (.deferred (some []))::pt mb (.map es clock)::pt cb (.cells #[.map (some mb)] 78 (0,0))::F)) ((h1.push (.deferred (some []))).push (rec .ready none)):=K2;have K4:aD (mR b0 []::(pt (h1.size+1) (rec .ready none)::pt h1.size (.deferred (some []))::pt mb (.map es clock)::pt cb (.cells #[.map (some mb)] 78 (0,0))::F)) ((h1.push (.deferred (some []))).push (rec .ready none)):=bg.2 ⟨(none,0,0),K3.shut⟩;exact (((K4.mv 2).mv 2).mv 3).mv 4
 refine (AA hm (fun done=>pt (h1.size+1) (rec .ready none)::pt h1.size (.deferred (some []))::mR b0 done::F)
  (fun h2=>∃ ks:List Int,ks.Perm (m.map (·.1))∧aD (pt (h1.size+1) (rec .ready none)::pt h1.size (.deferred (some []))::mR b0 ks::pt mb (.map es clock)::F) h2) Hs ?_ ?_).mono ?_
 · intro r o done k h4 hdl H4;refine gh ?_;have hL:=(H4.mv 3).get;refine hy _ _ _ rfl hL ⟨k,rfl,hL,?_⟩;have H5:=((H4.mv 3).set (rec .busy none)).mv 5;obtain ⟨⟨la,ll,lc⟩,H6⟩:=bg.1 H5;have H7:=H6.open;obtain ⟨hll,hllc,hlcm⟩:=fK H7.drop;simp only [an,Nat.mul_one] at hll hllc hlcm;refine ⟨.slice la ll lc,by rw [bj H7.get]; rfl,?_⟩;show aT (.slice la ll lc) _;rw [aF];refine aQ H7 fun b1 h8 H8=>?_;have hr:dF h8 (some ⟨b1,0,none⟩) [.int .i64 k]:=by
    intro j v hv;rw [dU H8.get];simpa using hv
   refine jS Jy Bo GX (H8.mv 2) (ce hr rfl) (by intro u hu; simp at hu; subst hu; rfl) (by omega) fun a' c' h9 _ H9=>?_;rw [aF];simp only [aV];refine dK (H9.mv 2) Nat.zero_lt_one (bO 1 0 (by decide)) fun h10 H10=>?_;have H11:=H10.mv 3;refine ⟨H11.get,true,rfl,fun _=>?_,fun e=>by cases e⟩;have H12:=((((H11.set (rec .ready none)).mv 3).drop).mv 2).mv 2;have H13:aD ([pt b0 (.cells #[.slice a' (ll+1) c'] 128 (0,0)),aL 2 1 a' (ll+1) c' ((done++[k]).map iv)]++(pt (h1.size+1) (rec .ready none)::pt cb (.cells #[.map (some mb)] 78 (0,0))::pt mb (.map es clock)::pt r o::pt h1.size (.deferred (some []))::F)) (h10.setIfInBounds (h1.size+1) (rec .ready none)):=by
    rw [map_append];exact H12
   have H14:aD (mR b0 (done++[k])::(pt (h1.size+1) (rec .ready none)::pt cb (.cells #[.map (some mb)] 78 (0,0))::pt mb (.map es clock)::pt r o::pt h1.size (.deferred (some []))::F)) (h10.setIfInBounds (h1.size+1) (rec .ready none)):=bg.2 ⟨(a',ll+1,c'),H13.shut⟩;exact ((((H14.mv 5).mv 2).mv 5).mv 5).mv 5
 · intro ks h4 hp H4;exact ⟨ks,hp,(((H4.mv 1).mv 4).mv 4).mv 4 |> fun hh=>(((H4.drop.mv 3).mv 3).mv 3)⟩
 · rintro v h4 ⟨_,ks,hp,H4⟩;refine ⟨.ready,none,H4.get,by decide,rfl,?_⟩;have H5:=(H4.set (rec .exhausted none)).mv 2;obtain ⟨⟨la,ll,lc⟩,H6⟩:=bg.1 H5;have H7:=H6.open;obtain ⟨hll,hllc,hlcm⟩:=fK H7.drop;simp only [an,Nat.mul_one] at hll hllc hlcm;refine ⟨.slice la ll lc,by rw [bj H7.get]; rfl,?_⟩;show aT (.slice la ll lc) _;rw [aF];have H8:=H7.mv 3;subst hll;refine ⟨H8.get,la,lc,ks,hp,rfl,?_⟩;have H9:=(H8.set (.deferred none)).drop.drop;exact (cw hm (((H9.mv 1).drop).mv 1)).mv 1
theorem Cy {cb mb:Nat} {m:List (Int×Value)} {h:Heap} {F:List aE} (H:aD (pt cb (.cells #[.map (some mb)] 78 (0,0))::bF (bN .i64) mb m::F) h) (hmax:m.length<1099511627776) :
  aC prog 98 [.func (.func 151) #[] #[.pointer (some ⟨cb,0,none⟩)]] h fun v h'=>∃ (a:Option Addr) (c:Nat),v=.slice a m.length c∧aD (aL 2 1 a m.length c ((fj (m.map (·.1))).map iv)::bF (bN .i64) mb m::F) h':=by
 apply Cz.ap
 unfold Mb
 have step:aC prog 149 [.func (.func 151) #[] #[.pointer (some ⟨cb,0,none⟩)]] h fun v h'=>∃ (a:Option Addr) (c:Nat) (ks:List Int),ks.Perm (m.map (·.1))∧v=.slice a ks.length c∧aD (aL 2 1 a ks.length c (ks.map iv)::bF (bN .i64) mb m::F) h':=by
  apply zc.ap;unfold I6;refine (yd H hmax).mono ?_;rintro v h1 ⟨a,c,ks,hp,rfl,H1⟩;rw [aF];exact ⟨a,c,ks,hp,rfl,H1⟩
 refine step.mono ?_
 rintro v h1 ⟨a,c,ks,hp,rfl,H1⟩
 rw [aF]
 have hkl:ks.length=m.length:=by rw [hp.length_eq,an]
 refine (tL H1 (by omega)).mono ?_
 rintro v h2 ⟨rfl,H2⟩
 refine ⟨rfl,a,c,by rw [hkl],?_⟩
 rw [hkl] at H2
 have e:fj ks=fj (m.map (·.1)):=qt hp
 rw [← e]
 exact H2
theorem C1 {mb:Nat} {m:List (Int×Value)} {h:Heap} {F:List aE} (H:aD (bF (bN .i64) mb m::F) h) (hmax:m.length<1099511627776) :
  aC prog 37 [.map (some mb)] h fun v h'=>∃ (kb tb:Nat) (a:Option Addr) (c:Nat),v=.func (.func 100) #[] #[.pointer (some ⟨kb,0,none⟩),.pointer (some ⟨tb,0,none⟩)]∧
   aD (ow kb tb mb a c 78 (fj (m.map (·.1)))::bF (bN .i64) mb m::F) h':=by
 apply Ix.ap
 unfold M6
 refine aQ H fun tb h1 H1=>?_
 refine ⟨.map (some mb),by rw [bj H1.get]; rfl,?_⟩
 show DM (.map (some mb)) _
 rw [bY]
 refine (Cx H1).mono ?_
 rintro v h2 ⟨cb,rfl,H2⟩
 refine ⟨_,rfl,?_⟩
 refine (Cy (cb:=cb) (mb:=mb) (m:=m) (H2.ordT 3 [0,2,1]) hmax).mono ?_
 rintro v h3 ⟨a,c,rfl,H3⟩
 rw [aF]
 refine aQ H3 fun kb h4 H4=>?_
 refine ud H4 fun h5 H5=>?_
 refine ⟨kb,tb,a,c,rfl,?_⟩
 have hl:(fj (m.map (·.1))).length=m.length:=by rw [(mZ _).length_eq,an]
 unfold ow
 rw [hl]
 exact aD.shut (m:=[_,_,_]) (H5.ordT 4 [0,3,1,2])
theorem Ak {yv:Value} {cb mb:Nat} {m:List (Int×Value)} {es:Array MapEntry} {clock:Nat} {h:Heap} (hm:dG (bN .i64) es clock m) (G:List Int→List aE) (Out:Heap→Prop)
  (start:aD (pt cb (.cells #[.map (some mb)] 80 (0,0))::pt mb (.map es clock)::G []) h)
  (round:∀ (r:Nat) (o:Obj) done k h2,done.length<m.length→aD (pt cb (.cells #[.map (some mb)] 80 (0,0))::pt mb (.map es clock)::pt r o::G done) h2→
   cB prog yv [.int .i64 k] h2 fun r' h3=>∃ go,r'=.bool go∧(go=true→aD (pt cb (.cells #[.map (some mb)] 80 (0,0))::pt mb (.map es clock)::pt r o::G (done++[k])) h3)∧(go=false→Out h3))
  (fin:∀ ks h2,ks.Perm (m.map (·.1))→aD (pt cb (.cells #[.map (some mb)] 80 (0,0))::pt mb (.map es clock)::G ks) h2→Out h2) :
  aC prog 188 [yv,.pointer (some ⟨cb,0,none⟩)] h fun v h'=>v=.tuple #[]∧Out h':=by
 apply Fe.ap
 unfold KO
 refine ⟨.map (some mb),by rw [bj start.get]; rfl,?_⟩
 show DM (.map (some mb)) _
 rw [bY]
 have hn:=hm.1.2.1
 refine eN (k:=2) (e:=4) (by kernel_rfl) start (start.mv 1).get fun r h1 H1=>?_
 rw [bD]
 refine ⟨fun _ h2=>∃ seen done c0,aD (pt r (.mapIter (some mb) clock seen c0)::pt cb (.cells #[.map (some mb)] 80 (0,0))::pt mb (.map es clock)::G (done.map fun e:MapEntry=>kI e.key)) h2∧cF es seen done∧clock≤c0,
  fun _ h2=>bU ⟨r,0,none⟩ h2,⟨#[],[],clock,H1,cF.start es,av _⟩,?_⟩
 rintro _ h2 ⟨seen,done,c0,H2,hw,hc⟩
 have hmb:=(H2.mv 2).get
 refine kn H2 hmb hm.1.1 hc ?_ ?_
 · intro h0;refine .inl ⟨rfl,rfl,fin (done.map fun e:MapEntry=>kI e.key) h2 ?_ H2.drop⟩;rw [← hm.keysI];exact (hw.fin h0).map _
 · intro e he h3 H3;have hmb3:=(H3.mv 2).get;have hee:=cF.mem he;refine .inr ⟨_,_,rfl,?_⟩;refine i6 H3 hmb3 hee hn ?_;refine ⟨kI e.key,e.val,by rw [← hm.intKey hee],?_⟩;have hdl:(done.map fun e:MapEntry=>kI e.key).length<m.length:=by
    have h1:=hw.perm.length_eq;have h2:0<(leftOf es seen).toList.length:=length_pos_of_mem he;rw [am] at h1;rw [an,← hm.size];simp only [Array.length_toList] at h1 h2;omega
   refine (round r (.mapIter (some mb) clock (seen.push e.born) clock) (done.map fun e:MapEntry=>kI e.key) (kI e.key) h3 hdl ((H3.mv 2).mv 2)).mono ?_;rintro r' h4 ⟨go,rfl,hgo,hstop⟩;rw [cd]
   cases go with
   | false=>exact ⟨rfl,hstop rfl⟩
   | true=>
     rw [az,aa];have H4:=(hgo rfl).mv 2;refine ⟨⟨seen.push e.born,done++[e],clock,?_,hw.step hn he,av _⟩,?_⟩
     · rw [map_append];exact H4
     · have a1:bU ⟨r,0,none⟩ h4=(leftOf es (seen.push e.born)).size:=by
        unfold bU;simp only [H4.get,(H4.mv 2).get]
       have a2:bU ⟨r,0,none⟩ h2=(leftOf es seen).size:=by
        unfold bU;simp only [H2.get,hmb]
       show bU ⟨r,0,none⟩ h4<bU ⟨r,0,none⟩ h2;rw [a1,a2];exact cF.less hn he
theorem Ay {m0:Option Nat} {h:Heap} {F:List aE} (H:aD F h):aC prog 163 [.map m0] h fun v h'=>∃ b,v=.func (.func 188) #[] #[.pointer (some ⟨b,0,none⟩)]∧aD (pt b (.cells #[.map m0] 80 (0,0))::F) h':=by
 apply Ft.ap
 unfold KZ
 exact aQ H fun b h1 H1=>⟨b,rfl,H1⟩
theorem ye {cb mb:Nat} {m:List (Int×Value)} {h:Heap} {F:List aE} (H:aD (pt cb (.cells #[.map (some mb)] 80 (0,0))::bF (bN .i64) mb m::F) h) (hmax:m.length<1099511627776) :
  aC prog 185 [.slice none 0 0,.func (.func 188) #[] #[.pointer (some ⟨cb,0,none⟩)]] h fun v h'=>∃ (a:Option Addr) (c:Nat) (ks:List Int),ks.Perm (m.map (·.1))∧v=.slice a ks.length c∧aD (aL 2 1 a ks.length c (ks.map iv)::bF (bN .i64) mb m::F) h':=by
 apply yZ.ap
 unfold IP
 refine aQ H fun b0 h1 H1=>?_
 obtain ⟨es,clock,hm,H2⟩:=cx (H1.mv 2)
 intro rec hrec hy
 refine jA ?_
 have H3:=(H2.push (.deferred (some []))).push (rec .ready none)
 rw [Array.size_push] at H3
 have Hs:aD (pt cb (.cells #[.map (some mb)] 80 (0,0))::pt mb (.map es clock)::pt (h1.size+1) (rec .ready none)::pt h1.size (.deferred (some []))::mR b0 []::F) ((h1.push (.deferred (some []))).push (rec .ready none)):=by
  have K:=bE 2 1 (H3.mv 3);have K2:=K.mv 1;have K3:aD ([pt b0 (.cells #[.slice none 0 0] 128 (0,0)),aL 2 1 none 0 0 []]++(pt (h1.size+1) (rec .ready none)::pt h1.size (.deferred (some []))::pt mb (.map es clock)::pt cb (.cells #[.map (some mb)] 80 (0,0))::F)) ((h1.push (.deferred (some []))).push (rec .ready none)):=K2;have K4:aD (mR b0 []::(pt (h1.size+1) (rec .ready none)::pt h1.size (.deferred (some []))::pt mb (.map es clock)::pt cb (.cells #[.map (some mb)] 80 (0,0))::F)) ((h1.push (.deferred (some []))).push (rec .ready none)):=bg.2 ⟨(none,0,0),K3.shut⟩;exact (((K4.mv 2).mv 2).mv 3).mv 4
 refine (Ak hm (fun done=>pt (h1.size+1) (rec .ready none)::pt h1.size (.deferred (some []))::mR b0 done::F)
  (fun h2=>∃ ks:List Int,ks.Perm (m.map (·.1))∧aD (pt (h1.size+1) (rec .ready none)::pt h1.size (.deferred (some []))::mR b0 ks::pt mb (.map es clock)::F) h2) Hs ?_ ?_).mono ?_
 · intro r o done k h4 hdl H4;refine gh ?_;have hL:=(H4.mv 3).get;refine hy _ _ _ rfl hL ⟨k,rfl,hL,?_⟩;have H5:=((H4.mv 3).set (rec .busy none)).mv 5;obtain ⟨⟨la,ll,lc⟩,H6⟩:=bg.1 H5;have H7:=H6.open;obtain ⟨hll,hllc,hlcm⟩:=fK H7.drop;simp only [an,Nat.mul_one] at hll hllc hlcm;refine ⟨.slice la ll lc,by rw [bj H7.get]; rfl,?_⟩;show aT (.slice la ll lc) _;rw [aF];refine aQ H7 fun b1 h8 H8=>?_;have hr:dF h8 (some ⟨b1,0,none⟩) [.int .i64 k]:=by
    intro j v hv;rw [dU H8.get];simpa using hv
   refine jS Jy Bo GX (H8.mv 2) (ce hr rfl) (by intro u hu; simp at hu; subst hu; rfl) (by omega) fun a' c' h9 _ H9=>?_;rw [aF];simp only [aV];refine dK (H9.mv 2) Nat.zero_lt_one (bO 1 0 (by decide)) fun h10 H10=>?_;have H11:=H10.mv 3;refine ⟨H11.get,true,rfl,fun _=>?_,fun e=>by cases e⟩;have H12:=((((H11.set (rec .ready none)).mv 3).drop).mv 2).mv 2;have H13:aD ([pt b0 (.cells #[.slice a' (ll+1) c'] 128 (0,0)),aL 2 1 a' (ll+1) c' ((done++[k]).map iv)]++(pt (h1.size+1) (rec .ready none)::pt cb (.cells #[.map (some mb)] 80 (0,0))::pt mb (.map es clock)::pt r o::pt h1.size (.deferred (some []))::F)) (h10.setIfInBounds (h1.size+1) (rec .ready none)):=by
    rw [map_append];exact H12
   have H14:aD (mR b0 (done++[k])::(pt (h1.size+1) (rec .ready none)::pt cb (.cells #[.map (some mb)] 80 (0,0))::pt mb (.map es clock)::pt r o::pt h1.size (.deferred (some []))::F)) (h10.setIfInBounds (h1.size+1) (rec .ready none)):=bg.2 ⟨(a',ll+1,c'),H13.shut⟩;exact ((((H14.mv 5).mv 2).mv 5).mv 5).mv 5
 · intro ks h4 hp H4;exact ⟨ks,hp,(((H4.mv 1).mv 4).mv 4).mv 4 |> fun hh=>(((H4.drop.mv 3).mv 3).mv 3)⟩
 · rintro v h4 ⟨_,ks,hp,H4⟩;refine ⟨.ready,none,H4.get,by decide,rfl,?_⟩;have H5:=(H4.set (rec .exhausted none)).mv 2;obtain ⟨⟨la,ll,lc⟩,H6⟩:=bg.1 H5;have H7:=H6.open;obtain ⟨hll,hllc,hlcm⟩:=fK H7.drop;simp only [an,Nat.mul_one] at hll hllc hlcm;refine ⟨.slice la ll lc,by rw [bj H7.get]; rfl,?_⟩;show aT (.slice la ll lc) _;rw [aF];have H8:=H7.mv 3;subst hll;refine ⟨H8.get,la,lc,ks,hp,rfl,?_⟩;have H9:=(H8.set (.deferred none)).drop.drop;exact (cw hm (((H9.mv 1).drop).mv 1)).mv 1
theorem yk {cb mb:Nat} {m:List (Int×Value)} {h:Heap} {F:List aE} (H:aD (pt cb (.cells #[.map (some mb)] 80 (0,0))::bF (bN .i64) mb m::F) h) (hmax:m.length<1099511627776) :
  aC prog 98 [.func (.func 188) #[] #[.pointer (some ⟨cb,0,none⟩)]] h fun v h'=>∃ (a:Option Addr) (c:Nat),v=.slice a m.length c∧aD (aL 2 1 a m.length c ((fj (m.map (·.1))).map iv)::bF (bN .i64) mb m::F) h':=by
 apply Cz.ap
 unfold Mb
 have step:aC prog 149 [.func (.func 188) #[] #[.pointer (some ⟨cb,0,none⟩)]] h fun v h'=>∃ (a:Option Addr) (c:Nat) (ks:List Int),ks.Perm (m.map (·.1))∧v=.slice a ks.length c∧aD (aL 2 1 a ks.length c (ks.map iv)::bF (bN .i64) mb m::F) h':=by
  apply zc.ap;unfold I6;refine (ye H hmax).mono ?_;rintro v h1 ⟨a,c,ks,hp,rfl,H1⟩;rw [aF];exact ⟨a,c,ks,hp,rfl,H1⟩
 refine step.mono ?_
 rintro v h1 ⟨a,c,ks,hp,rfl,H1⟩
 rw [aF]
 have hkl:ks.length=m.length:=by rw [hp.length_eq,an]
 refine (tL H1 (by omega)).mono ?_
 rintro v h2 ⟨rfl,H2⟩
 refine ⟨rfl,a,c,by rw [hkl],?_⟩
 rw [hkl] at H2
 have e:fj ks=fj (m.map (·.1)):=qt hp
 rw [← e]
 exact H2
theorem AP {mb:Nat} {m:List (Int×Value)} {h:Heap} {F:List aE} (H:aD (bF (bN .i64) mb m::F) h) (hmax:m.length<1099511627776) :
  aC prog 109 [.map (some mb)] h fun v h'=>∃ (kb tb:Nat) (a:Option Addr) (c:Nat),v=.func (.func 164) #[] #[.pointer (some ⟨kb,0,none⟩),.pointer (some ⟨tb,0,none⟩)]∧
   aD (ow kb tb mb a c 80 (fj (m.map (·.1)))::bF (bN .i64) mb m::F) h':=by
 apply F4.ap
 unfold Ly
 refine aQ H fun tb h1 H1=>?_
 refine ⟨.map (some mb),by rw [bj H1.get]; rfl,?_⟩
 show DM (.map (some mb)) _
 rw [bY]
 refine (Ay H1).mono ?_
 rintro v h2 ⟨cb,rfl,H2⟩
 refine ⟨_,rfl,?_⟩
 refine (yk (cb:=cb) (mb:=mb) (m:=m) (H2.ordT 3 [0,2,1]) hmax).mono ?_
 rintro v h3 ⟨a,c,rfl,H3⟩
 rw [aF]
 refine aQ H3 fun kb h4 H4=>?_
 refine ud H4 fun h5 H5=>?_
 refine ⟨kb,tb,a,c,rfl,?_⟩
 have hl:(fj (m.map (·.1))).length=m.length:=by rw [(mZ _).length_eq,an]
 unfold ow
 rw [hl]
 exact aD.shut (m:=[_,_,_]) (H5.ordT 4 [0,3,1,2])
open Go Go.RowKit
def gd (n:Nat):List Nat:=if h:n<128 then [n] else (n%128+128)::gd (n / 128)
termination_by n
decreasing_by exact Nat.div_lt_self (by omega) (by decide)
def dV (s:List Nat):List Nat:=gd s.length++s
def gM (p:List Nat×List Nat):List Nat:=dV p.1++dV p.2
def oU (l:List (List Nat×List Nat)):List Nat:=gd l.length++l.flatMap gM
theorem gG {n:Nat} (h:n<128):gd n=[n]:=by rw [gd,dif_pos h]
theorem nW {n:Nat} (h:¬ n<128):gd n=(n%128+128)::gd (n / 128):=by rw [gd,dif_neg h]
theorem iU:∀ n:Nat,B8 (gd n):=by
 intro n
 induction n using Nat.strongRecOn with
 | ind n ih=>
   by_cases h:n<128
   · rw [gG h];intro x hx;simp at hx;omega
   · rw [nW h];intro x hx
     rcases ay.1 hx with rfl | hx
     · omega
     · exact ih _ (Nat.div_lt_self (by omega) (by decide)) x hx
theorem fy:∀ (k n:Nat),n<128^(k+1)→(gd n).length≤k+1
 | 0,n,h=>by rw [gG (by omega)]; exact av _
 | k+1,n,h=>by
   by_cases h1:n<128
   · rw [gG h1]; simp
   · rw [nW h1,ao];have:=fy k (n / 128) (by rw [Nat.div_lt_iff_lt_mul (by decide)]; rw [Nat.pow_succ] at h; exact h);omega
theorem xV {a b:List Nat} (ha:B8 a) (hb:B8 b):B8 (a++b):=fun x hx=>(List.mem_append.1 hx).elim (ha x) (hb x)
theorem qi {s:List Nat} (h:B8 s):B8 (dV s):=xV (iU _) h
theorem zA {l:List (List Nat×List Nat)} (h:∀ p∈l,B8 p.1∧B8 p.2):B8 (oU l):=by
 refine xV (iU _) fun x hx=>?_
 obtain ⟨p,hp,hx⟩:=List.mem_flatMap.1 hx
 exact xV (qi (h p hp).1) (qi (h p hp).2) x hx
namespace AF
open Hex (cU)
open Fnm (nm)
abbrev fe:=List (Int×List Nat)
structure bA where
 dir:ByteArray
 S:fe
 Fo:List (Int×Unit)
 D:fe
def lK (n:Int):ByteArray:=bT (cU 16 (eY n))
def cu (c:Nat) (n:Int):ByteArray:=nm c (eY n)
def dq {α:Type} (T:List (Int×α)) (D:List (Int×α)):List (Int×α):=D.foldl (fun T p=>bR p.1 p.2 T) T
def bm {α:Type} (T:List (Int×α)):Int:=(T.map (·.1)).foldl max (-1)
def bA.entries (M:bA):fe:=dq M.S M.D
def bA.get (M:bA) (id:Int):Option (List Nat):=match cg M.D id with
 | some b=>some b
 | none=>cg M.S id
def bA.put (M:bA) (A:FS) (id:Int) (b:List Nat):FS×bA×Nat:=
 if id<0∨1099511627776<id then (A,M,2) else match M.get id with
 | some was=>(A,M,if was=b then 0 else 90)
 | none=>if (A.put M.dir (cu 98 id) b).2=0 then ((A.put M.dir (cu 98 id) b).1,{ M with S:=bR id b M.S },0) else ((A.put M.dir (cu 98 id) b).1,M,(A.put M.dir (cu 98 id) b).2)
def fY {α:Type} (dir:ByteArray) (c:Nat) (p:Int→Bool):List Int→FS→List (Int×α)→Bool→FS×List (Int×α)×Bool×Nat
 | [],A,T,s=>(A,T,s,0)
 | n::l,A,T,s=>if p n then (if (A.remove dir (cu c n)).2=0 then fY dir c p l (A.remove dir (cu c n)).1 (ru n T) true else ((A.remove dir (cu c n)).1,T,s,(A.remove dir (cu c n)).2)) else fY dir c p l A T s
def bA.remove (M:bA) (A:FS) (p:Nat→Int→Bool):FS×bA×Nat:=
 let r:=fY M.dir 98 (p 98) (M.S.map (·.1)) A M.S false
 if r.2.2.2≠0 then (r.1,{ M with S:=r.2.1 },r.2.2.2) else
 let q:=fY M.dir 102 (p 102) (M.Fo.map (·.1)) r.1 M.Fo r.2.2.1
 if q.2.2.2≠0 then (q.1,{ M with S:=r.2.1,Fo:=q.2.1 },q.2.2.2) else
 if q.2.2.1=true then ((q.1.syncDir M.dir).1,{ M with S:=r.2.1,Fo:=q.2.1 },(q.1.syncDir M.dir).2) else (q.1,{ M with S:=r.2.1,Fo:=q.2.1 },0)
def bC (l:fe):List Nat:=oU (l.map fun p=>(sb (lK p.1),p.2))
def bA.fold (M:bA) (A:FS) (upto:Int):FS×bA×Nat:=
 let m:=max upto (bm M.Fo)
 let some:=M.entries.filter fun p=>decide (p.1≤m)
 let last:=bm some
 if last<0 then (A,M,91) else
 if bm M.Fo=last∧M.Fo.length=1∧∀ p∈M.S,last<p.1 then (A,M,0) else
 if 16777216<(bC some).length then (A,M,42) else
 if (A.put M.dir (cu 102 last) (bC some)).2≠0 then ((A.put M.dir (cu 102 last) (bC some)).1,M,(A.put M.dir (cu 102 last) (bC some)).2) else
 bA.remove { M with Fo:=bR last () M.Fo,D:=M.entries.filter fun p=>decide (p.1≤last) } (A.put M.dir (cu 102 last) (bC some)).1
  fun c n=>if c=98 then decide (n≤last) else decide (n≠last)
def bA.purge (M:bA) (A:FS) (below:Int):FS×bA×Nat:=
 let r:=M.remove A fun _ n=>decide (n<below)
 if bm r.2.1.Fo<0 then (r.1,{ r.2.1 with D:=[] },r.2.2) else r
end AF
end Go.Proofs.YtmemjbiijclbdaaGreat
