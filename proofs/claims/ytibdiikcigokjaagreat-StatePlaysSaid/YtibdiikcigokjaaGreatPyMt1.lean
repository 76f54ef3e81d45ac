/- What stays and is read; tables by numbers over owned maps. -/
import Derived.Test.YtibdiikcigokjaaGreatPyFwB
namespace Go.Proofs.YtibdiikcigokjaaGreat
open List (mem_append mem_map pairwise_map pairwise_singleton find?_some mem_of_find?_eq_some find?_cons find?_eq_none mem_singleton any_eq_true mem_cons_self)
open Go Go.RowKit Go.MapKept
set_option linter.unusedVariables false
set_option linter.unusedSimpArgs false
def qr (R:Heap→Prop):aG:=fun r=>(∀ b x,r b=some x→x.2=true)∧∀ h,sub r h→R h
theorem Cb (R:Heap→Prop):jo (qr R):=fun r h=>h.1
section
variable {F:List aG} {h:Heap} {R S:Heap→Prop}
theorem zM {r s:fe} (hd:lL r s) (H:sub (cO r s) h):sub s h:=fun b x hx=>H b x (fK hd hx)
theorem nB (H:aD (qr R::F) h):R h:=by
 obtain ⟨r,⟨r1,r2,hd,rfl,⟨_,ho⟩,h2⟩,hs⟩:=H
 exact ho h (qg hs)
theorem ET (H:aD (qr R::qr S::F) h):aD (qr (fun h=>R h∧S h)::F) h:=by
 obtain ⟨r,hr,hs⟩:=H
 refine ⟨r,fu ?_ (fun _ h=>h) (kw hr),hs⟩
 rintro q ⟨r1,r2,hd,rfl,⟨p1,o1⟩,⟨p2,o2⟩⟩
 refine ⟨fun b x hx=>?_,fun h hs=>⟨o1 h (qg hs),o2 h (zM hd hs)⟩⟩
 unfold cO at hx
 cases h:r1 b with
 | some y=>rw [h] at hx; cases hx; exact p1 b _ h
 | none=>rw [h] at hx; exact p2 b x hx
theorem fM (hi:∀ h,R h→S h) (H:aD (qr R::F) h):aD (qr S::F) h:=H.imp fun r hr=>⟨hr.1,fun h hs=>hi h (hr.2 h hs)⟩
theorem j4 (H:aD F h):aD (qr (fun _=>True)::F) h:=by
 obtain ⟨r,hr,hs⟩:=H
 obtain ⟨r1,r2,hd,e1,h1,h2⟩:=mh hr
 exact ⟨r,⟨r1,r2,hd,e1,⟨fun b x hx=>(by rw [h1 b] at hx; cases hx),fun h hs=>trivial⟩,h2⟩,hs⟩
theorem ER {e sz:Nat} {a:Option Addr} {l c:Nat} {xs:List Value} (H:aD (aL e sz a l c xs::F) h):aD (qr (fun h=>dw h a xs)::F) h:=oD H
theorem ES (H:aD (qr R::F) h):aD (qr R::qr R::F) h:=H.dup (Cb R)
end
section
variable {α:Type}
def mZ (T:List (Int×α)) (k:Int):Option α:=(T.find? fun p=>decide (p.1=k)).map (·.2)
def eI (k:Int) (x:α):List (Int×α)→List (Int×α)
 | []=>[(k,x)]
 | p::T=>if p.1=k then (k,x)::T else if k<p.1 then (k,x)::p::T else p::eI k x T
def rG (k:Int) (T:List (Int×α)):List (Int×α):=T.filter fun p => !decide (p.1=k)
def xr (T:List (Int×α)):Prop:=T.Pairwise fun p q=>p.1<q.1
theorem xr.nodup {T:List (Int×α)} (h:xr T):(T.map (·.1)).Nodup:=by
 rw [List.Nodup,pairwise_map]
 exact h.imp fun h e=>by omega
theorem fd (p:Int×α) (l:List (Int×α)) (j:Int):mZ (p::l) j=if p.1=j then some p.2 else mZ l j:=by
 unfold mZ
 rw [find?_cons]
 by_cases h:p.1=j <;> simp [h]
theorem Ai {T:List (Int×α)} {k:Int}:mZ T k=none↔∀ p∈T,p.1≠k:=by
 unfold mZ
 simp [find?_eq_none]
theorem lF {T:List (Int×α)} {k:Int} {x:α} (h:mZ T k=some x):(k,x)∈T:=by
 unfold mZ at h
 cases hf:T.find? (fun p=>decide (p.1=k)) with
 | none=>rw [hf] at h; cases h
 | some p=>
   rw [hf] at h;have h1:=mem_of_find?_eq_some hf;have h2:=find?_some hf;simp at h h2;rw [← h,← h2];exact h1
theorem kd {T:List (Int×α)} (hu:xr T) {k:Int} {x:α} (h:(k,x)∈T):mZ T k=some x:=by
 induction T with
 | nil=>cases h
 | cons p T ih=>
   have hu2:=List.pairwise_cons.1 hu;rw [fd]
   rcases ay.1 h with rfl | h
   · rw [al rfl]
   · have:p.1≠k:=fun e=>by have:=hu2.1 _ h; simp only at this; omega
     rw [ak this,ih hu2.2 h]
theorem jM (k:Int) (x:α):∀ T:List (Int×α),mZ (eI k x T) k=some x
 | []=>by simp [eI,fd]
 | p::l=>by
   unfold eI;split
   · simp [fd]
   · split
     · simp [fd]
     · rename_i h _;rw [fd,ak h,jM k x l]
theorem lE {k j:Int} (x:α) (h:k≠j):∀ T:List (Int×α),mZ (eI k x T) j=mZ T j
 | []=>by simp [eI,fd,h]
 | p::l=>by
   unfold eI;split
   · rename_i e;rw [fd,fd,ak h,ak (by rw [e]; exact h)]
   · split
     · rw [fd,ak h]
     · rw [fd,fd,lE x h l]
theorem kv {k:Int} {x:α}:∀ {T:List (Int×α)},xr T→xr (eI k x T)
 | [],_=>pairwise_singleton ..
 | p::l,h=>by
   have h2:=List.pairwise_cons.1 h;unfold eI;split
   · rename_i e;exact List.pairwise_cons.2 ⟨fun q hq=>by have:=h2.1 q hq; simp only; omega,h2.2⟩
   · rename_i e;split
     · rename_i hl;refine List.pairwise_cons.2 ⟨fun q hq=>?_,h⟩
       rcases ay.1 hq with rfl | hq
       · exact hl
       · have:=h2.1 q hq;simp only;omega
     · rename_i hl;refine List.pairwise_cons.2 ⟨fun q hq=>?_,kv h2.2⟩;have hm:q=(k,x)∨q∈l:=by
        clear h h2 e hl
        induction l with
        | nil=>simp [eI] at hq; exact .inl hq
        | cons r l ih=>
          unfold eI at hq;split at hq
          · rcases ay.1 hq with h | h
            · exact .inl h
            · exact .inr (aB _ h)
          · split at hq
            · rcases ay.1 hq with h | h
              · exact .inl h
              · exact .inr h
            · rcases ay.1 hq with h | h
              · exact .inr (by rw [h]; exact mem_cons_self ..)
              · rcases ih h with h | h
                · exact .inl h
                · exact .inr (aB _ h)
       rcases hm with rfl | hq
       · simp only;omega
       · exact h2.1 q hq
theorem ir {k:Int} {x:α} {T:List (Int×α)} (hu:xr T) {p:Int×α}:p∈eI k x T↔p=(k,x)∨(p.1≠k∧p∈T):=by
 obtain ⟨j,y⟩:=p
 by_cases h:j=k
 · subst h;constructor
   · intro hm;have h1:=kd (kv hu) hm;rw [jM] at h1;cases h1;exact .inl rfl
   · rintro (h | ⟨h,_⟩)
     · rw [h]; exact lF (jM _ _ _)
     · exact absurd rfl h
 · constructor
   · intro hm;have h1:=kd (kv hu) hm;rw [lE _ (Ne.symm h)] at h1;exact .inr ⟨h,lF h1⟩
   · rintro (h1 | ⟨_,h1⟩)
     · cases h1; exact absurd rfl h
     · refine lF ?_;rw [lE _ (Ne.symm h)];exact kd hu h1
theorem Fp {k:Int} {T:List (Int×α)} (h:xr T):xr (rG k T):=List.Pairwise.filter _ h
theorem yG:∀ {T U:List (Int×α)},xr T→xr U→(∀ p,p∈T↔p∈U)→T=U
 | [],[],_,_,_=>rfl
 | [],q::U,_,_,h=>by have:=(h q).2 (mem_cons_self ..); cases this
 | p::T,[],_,_,h=>by have:=(h p).1 (mem_cons_self ..); cases this
 | p::T,q::U,hT,hU,h=>by
   have t2:=List.pairwise_cons.1 hT;have u2:=List.pairwise_cons.1 hU;have hp:=(h p).1 (mem_cons_self ..);have hq:=(h q).2 (mem_cons_self ..);have e:p=q:=by
    rcases ay.1 hp with e | hp
    · exact e
    · rcases ay.1 hq with e | hq
      · exact e.symm
      · have:=t2.1 q hq;have:=u2.1 p hp;omega
   subst e;congr 1;refine yG t2.2 u2.2 fun r=>⟨fun hr=>?_,fun hr=>?_⟩
   · rcases ay.1 ((h r).1 (aB _ hr)) with e | h1
     · have:=t2.1 r hr; rw [e] at this; omega
     · exact h1
   · rcases ay.1 ((h r).2 (aB _ hr)) with e | h1
     · have:=u2.1 r hr; rw [e] at this; omega
     · exact h1
structure gV (R:α→Value→Heap→Prop) (m:List (Int×Value)) (T:List (Int×α)) (h:Heap):Prop where
 up:xr T
 keys:∀ k,k∈m.map (·.1)↔k∈T.map (·.1)
 vals:∀ k v,(k,v)∈m→∃ x,(k,x)∈T∧R x v h
def gu (R:α→Value→Heap→Prop) (b:Nat) (T:List (Int×α)):aG:=pS fun m:List (Int×Value)=>dh [bF (ey .i64) b m,qr (gV R m T)]
variable {R:α→Value→Heap→Prop} {b:Nat} {T:List (Int×α)} {F:List aG} {h:Heap}
theorem jW (H:aD (gu R b T::F) h):∃ m,aD (bF (ey .i64) b m::qr (gV R m T)::F) h:=by
 obtain ⟨m,H2⟩:=bw.1 H
 exact ⟨m,H2.open⟩
theorem jV {m:List (Int×Value)} (H:aD (bF (ey .i64) b m::qr (gV R m T)::F) h):aD (gu R b T::F) h:=
 bw.2 ⟨m,aD.shut (m:=[_,_]) H⟩
theorem Iy {κ:Type} [DecidableEq κ] {m:List (κ×Value)} {k:κ} {v:Value} (h:me m k=some v):(k,v)∈m:=by
 unfold me at h
 cases hf:m.find? (fun p=>decide (p.1=k)) with
 | none=>rw [hf] at h; cases h
 | some p=>
   rw [hf] at h;have h1:=mem_of_find?_eq_some hf;have h2:=find?_some hf;simp at h h2;rw [← h,← h2];exact h1
theorem Ix {κ:Type} [DecidableEq κ] {m:List (κ×Value)} {k:κ} (h:me m k=none):k∉m.map (·.1):=by
 unfold me at h
 rw [Option.map_eq_none_iff,find?_eq_none] at h
 intro hm
 obtain ⟨p,hp,e⟩:=List.mem_map.1 hm
 have:=h p hp
 simp [e] at this
theorem gV.look {m:List (Int×Value)} (I:gV R m T h) (k:Int):(me m k=none∧mZ T k=none)∨∃ v x,me m k=some v∧mZ T k=some x∧R x v h:=by
 cases hl:me m k with
 | none=>
   refine .inl ⟨rfl,?_⟩;rw [Ai];intro p hp e;exact Ix hl ((I.keys k).2 (List.mem_map.2 ⟨p,hp,e⟩))
 | some v=>
   obtain ⟨x,hx,hr⟩:=I.vals k v (Iy hl);exact .inr ⟨v,x,rfl,kd I.up hx,hr⟩
theorem pW {κ:Type} [DecidableEq κ] {m:List (κ×Value)} {k:κ} {v:Value} {p:κ×Value}:p∈ij m k v↔p=(k,v)∨(p.1≠k∧p∈m):=by
 unfold ij
 split
 · rename_i ha;rw [mem_map];constructor
   · rintro ⟨q,hq,rfl⟩;by_cases e:q.1=k
     · rw [al e]; exact .inl rfl
     · rw [ak e]; exact .inr ⟨e,hq⟩
   · rintro (rfl | ⟨hne,hp⟩)
     · rw [any_eq_true] at ha;obtain ⟨q,hq,e⟩:=ha;exact ⟨q,hq,al (by simpa using e)⟩
     · exact ⟨p,hp,ak hne⟩
 · rename_i ha;rw [mem_append,mem_singleton];constructor
   · rintro (hp | rfl)
     · refine .inr ⟨fun e=>ha ?_,hp⟩;rw [any_eq_true];exact ⟨p,hp,by simpa using e⟩
     · exact .inl rfl
   · rintro (rfl | ⟨_,hp⟩)
     · exact .inr rfl
     · exact .inl hp
theorem gV.set {m:List (Int×Value)} (I:gV R m T h) {k:Int} {v:Value} {x:α} (hr:R x v h):gV R (ij m k v) (eI k x T) h:=by
 refine ⟨kv I.up,fun j=>?_,fun j u hu=>?_⟩
 · by_cases e:j=k
   · subst e;constructor
     · intro _; exact List.mem_map.2 ⟨_,(ir I.up).2 (.inl rfl),rfl⟩
     · intro _; exact List.mem_map.2 ⟨_,pW.2 (.inl rfl),rfl⟩
   · constructor
     · intro hj;obtain ⟨p,hp,rfl⟩:=List.mem_map.1 hj
       rcases pW.1 hp with rfl | ⟨_,hp⟩
       · exact absurd rfl e
       · obtain ⟨q,hq,e2⟩:=List.mem_map.1 ((I.keys p.1).1 (List.mem_map.2 ⟨p,hp,rfl⟩));exact List.mem_map.2 ⟨q,(ir I.up).2 (.inr ⟨by rw [e2]; exact e,hq⟩),e2⟩
     · intro hj;obtain ⟨p,hp,rfl⟩:=List.mem_map.1 hj
       rcases (ir I.up).1 hp with rfl | ⟨_,hp⟩
       · exact absurd rfl e
       · obtain ⟨q,hq,e2⟩:=List.mem_map.1 ((I.keys p.1).2 (List.mem_map.2 ⟨p,hp,rfl⟩));exact List.mem_map.2 ⟨q,pW.2 (.inr ⟨by rw [e2]; exact e,hq⟩),e2⟩
 · rcases pW.1 hu with h1 | ⟨h1,h2⟩
   · cases h1;exact ⟨x,(ir I.up).2 (.inl rfl),hr⟩
   · obtain ⟨y,hy,hr2⟩:=I.vals j u h2;exact ⟨y,(ir I.up).2 (.inr ⟨h1,hy⟩),hr2⟩
theorem gV.del {m:List (Int×Value)} (I:gV R m T h) (k:Int):gV R (iI m k) (rG k T) h:=by
 refine ⟨Fp I.up,fun j=>?_,fun j u hu=>?_⟩
 · constructor
   · intro hj;obtain ⟨p,hp,rfl⟩:=List.mem_map.1 hj;have hp2:=List.mem_filter.1 hp;obtain ⟨q,hq,e2⟩:=List.mem_map.1 ((I.keys p.1).1 (List.mem_map.2 ⟨p,hp2.1,rfl⟩));exact List.mem_map.2 ⟨q,List.mem_filter.2 ⟨hq,by rw [e2]; exact hp2.2⟩,e2⟩
   · intro hj;obtain ⟨p,hp,rfl⟩:=List.mem_map.1 hj;have hp2:=List.mem_filter.1 hp;obtain ⟨q,hq,e2⟩:=List.mem_map.1 ((I.keys p.1).2 (List.mem_map.2 ⟨p,hp2.1,rfl⟩));exact List.mem_map.2 ⟨q,List.mem_filter.2 ⟨hq,by rw [e2]; exact hp2.2⟩,e2⟩
 · have hu2:=List.mem_filter.1 hu;obtain ⟨y,hy,hr2⟩:=I.vals j u hu2.1;exact ⟨y,List.mem_filter.2 ⟨hy,hu2.2⟩,hr2⟩
theorem gV.nil:gV R [] [] h:=⟨List.Pairwise.nil,fun k=>Iff.rfl,fun k v hv=>by cases hv⟩
theorem vh (H:aD (pt b (.map #[] 0)::F) h):aD (gu R b []::F) h:=
 jV ((fM (fun _ _=>gV.nil) (j4 ((nH (ey .i64) H)))).mv 1)
theorem xL {κ:Type} {E:og κ} {m:List (κ×Value)} (H:aD (bF E b m::F) h):(m.map (·.1)).Nodup:=by
 obtain ⟨es,clock,hm,_⟩:=ee H
 exact hm.nodup
theorem gV.perm {m:List (Int×Value)} (I:gV R m T h) (hn:(m.map (·.1)).Nodup):(m.map (·.1)).Perm (T.map (·.1)):=
 (List.perm_ext_iff_of_nodup hn I.up.nodup).2 I.keys
theorem gV.length {m:List (Int×Value)} (I:gV R m T h) (hn:(m.map (·.1)).Nodup):m.length=T.length:=by
 have:=(I.perm hn).length_eq
 simpa using this
theorem lZ {P:Program} {ty kt et:TypeId} {k:Int} {v:Value} {x:α} {K:Heap→Prop} (hT:P.underlying ty=some (.map kt et)) (hd:P.underlying kt=some (.int .i64)) (H:aD (gu R b T::qr (R x v)::F) h)
  (hK:∀ h',aD (gu R b (eI k x T)::F) h'→K h'):lQ P (Instr.mapUpdate ty (.map (some b)) (.int .i64 k) v) h K:=by
 obtain ⟨m,H2⟩:=jW H
 refine dY (E:=ey .i64) (k:=k) hT hd H2 fun h' H3=>hK h' (jV (m:=ij m k v) ?_)
 exact (fM (fun _ hh=>hh.1.set hh.2) (ET (H3.ordT 3 [1,2,0]))).mv 1
theorem xw {P:Program} {ty ty2 kt et t:TypeId} {k:Int} {K:Value→Heap→Prop} (hT:P.underlying ty=some (.map kt et)) (hd:P.underlying kt=some (.int .i64)) (H:aD (gu R b T::F) h)
  (hK:∀ h',aD (gu R b (rG k T)::F) h'→K (.tuple #[]) h'):bi P (Builtin.delete_ #[ty,ty2] t #[.map (some b),.int .i64 k]) h K:=by
 obtain ⟨m,H2⟩:=jW H
 refine kO (E:=ey .i64) (k:=k) hT hd H2 fun h' H3=>hK h' (jV (m:=iI m k) ?_)
 exact (fM (fun _ hh=>hh.del k) (H3.mv 1)).mv 1
end
end Go.Proofs.YtibdiikcigokjaaGreat
