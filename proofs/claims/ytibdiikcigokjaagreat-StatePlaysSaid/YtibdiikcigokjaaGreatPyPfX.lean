/- Maps that are cloned; the sorted keys of the second map type. -/
import Derived.Test.YtibdiikcigokjaaGreatPyPeX
import Derived.Test.YtibdiikcigokjaaGreatPyCloneS
namespace Go.Proofs.YtibdiikcigokjaaGreat.TS
open Go.IntKind (wrap)
open Go.Proofs.Tryz (prog)
open List (foldl_append length_drop map_append getElem?_map map_drop length_pos_of_mem nodup_cons length_filter_le map_map getElem?_drop foldl_cons drop_succ_cons)
open Go Go.RowKit Go.MapKept
set_option linter.unusedVariables false
set_option linter.unusedSimpArgs false
theorem Bh {κ:Type} [DecidableEq κ] {E:og κ} {b:Nat} {m:List (κ×Value)} {h:Heap} {F:List aG} (H:aD (bF E b m::F) h) :
  aC prog 158 [.map (some b)] h fun v h'=>∃ b',v=.map (some b')∧aD (bF E b' m::bF E b m::F) h':=by
 obtain ⟨es,clock,hm,H2⟩:=ee H
 refine ⟨by kernel_rfl,fun w hw=>callsIn_wide.2 ?_⟩
 subst hw
 refine (Tryz.maps_Clone158 b es clock w H2.get).mono ?_
 rintro e w' ⟨rfl,rfl⟩
 have H3:=H2.push (.map es clock)
 exact ⟨_,rfl,⟨w.heap.size,rfl,df hm ((df hm (H3.mv 1)).mv 1)⟩,⟨rfl,rfl,rfl⟩⟩
end Go.Proofs.YtibdiikcigokjaaGreat.TS
namespace Go.Proofs.YtibdiikcigokjaaGreat.TS
open Go.IntKind (wrap)
open Go.Proofs.Tryz (prog)
open List (foldl_append length_drop map_append getElem?_map map_drop length_pos_of_mem nodup_cons length_filter_le map_map getElem?_drop foldl_cons drop_succ_cons)
open Go Go.RowKit Go.MapKept
open Tb (T get set del Up nj)
set_option linter.unusedVariables false
set_option linter.unusedSimpArgs false
abbrev VT:=ByteArray
abbrev ve (x:VT):Value:=.string x
abbrev vz:VT:=.empty
theorem DV (x:VT) (K:VT→Prop):DS (ve x) K=K x:=aR x K
theorem EJ:prog.underlying 175=some (.map 9 9):=by kernel_rfl
theorem EK:prog.underlying 9=some aN.desc:=by kernel_rfl
structure AJ where
 mb:Nat
 m:List (ByteArray×Value)
 ka:Option Addr
 kl:Nat
 kc:Nat
 fr:Bool
 kx:List ByteArray
structure zl (l:T VT) (q:AJ):Prop where
 has:nj ve q.m l
 cap:q.kl≤q.kc
 fresh:q.fr=true→q.kx=l.map (·.1)∧q.kl=l.length
abbrev MY (q:AJ):Array Value:=#[.map (some q.mb),.slice q.ka q.kl q.kc,.bool q.fr]
abbrev tU (b:Nat) (q:AJ):aG:=pt b (.cells (MY q) 177 (0,0))
abbrev zK (q:AJ):aG:=iE q.ka (q.kx.map Value.string)
def dG (b:Nat) (l:T VT):aG:=pS fun q:AJ=>dh [mC (zl l q),tU b q,bF aN q.mb q.m,zK q]
section
variable {b:Nat} {l:T VT} {F:List aG} {h:Heap}
theorem im (H:aD (dG b l::F) h):∃ q,zl l q∧aD (tU b q::bF aN q.mb q.m::zK q::F) h:=by
 obtain ⟨q,H1⟩:=bw.1 H
 obtain ⟨h1,H2⟩:=cC.1 H1.open
 exact ⟨q,h1,H2⟩
theorem il {q:AJ} (hq:zl l q) (H:aD (tU b q::bF aN q.mb q.m::zK q::F) h):aD (dG b l::F) h:=
 bw.2 ⟨q,aD.shut (m:=[mC (zl l q),tU b q,bF aN q.mb q.m,zK q]) (cC.2 ⟨hq,H⟩)⟩
theorem look {m:List (ByteArray×Value)} {mb:Nat} (hm:nj ve m l) (H:aD (bF aN mb m::F) h) (k:ByteArray) :
  ∃ es,dN h (some mb) es∧∃ f,Instr.findNow .string (.string k) (es:Array MapEntry).toList 0=some f∧Option.map (fun x=>x.2) f=(get l k).map ve∧f.isSome=(get l k).isSome:=by
 obtain ⟨es,clock,hmi,hes⟩:=fP H
 obtain ⟨f,hf,hl,_⟩:=hmi.find k
 rw [hm.lk] at hl
 refine ⟨es,hes,f,hf,hl,?_⟩
 have:=congrArg Option.isSome hl
 simpa using this
theorem Nj (o:Option VT):(o.map ve).getD (ve vz)=ve (o.getD vz):=by cases o <;> rfl
abbrev La (l:T VT) (k:ByteArray):Value:=.tuple #[ve ((get l k).getD vz),.bool (get l k).isSome]
theorem w8 {key:ByteArray} (H:aD (dG b l::F) h):aC prog 55 [aJ b,.string key] h fun v h'=>v=La l key∧h'=h:=by
 obtain ⟨q,hq,H1⟩:=im H
 apply Do.ap
 unfold Nw
 rw [show (some (⟨b,0,none⟩:Addr)).isNone=false from rfl,aa]
 refine eU (v:=.map (some q.mb)) H1 rfl ?_
 show DM (.map (some q.mb)) _
 rw [bS]
 obtain ⟨es,hes,f,hf,hv,hi⟩:=look hq.has (H1.mv 1) key
 refine ⟨es,hes,f,hf,?_⟩
 rw [hv,Nj,DV,hi]
 exact ⟨rfl,by trivial⟩
theorem F39_spec {key:ByteArray} {x:VT} (H:aD (dG b l::F) h):aC prog 39 [aJ b,.string key,ve x] h fun v h'=>v=.tuple #[]∧aD (dG b (set key x l)::F) h':=by
 obtain ⟨q,hq,H1⟩:=im H
 apply Jy.ap
 unfold Ol
 rw [show (some (⟨b,0,none⟩:Addr)).isNone=false from rfl,aa]
 refine eU (v:=.map (some q.mb)) H1 rfl ?_
 show DM (.map (some q.mb)) _
 rw [bS]
 obtain ⟨es,hes,f,hf,hv,hi⟩:=look hq.has (H1.mv 1) key
 refine ⟨es,hes,f,hf,?_⟩
 rw [hv,Nj,DV,hi]
 cases hg:get l key with
 | none=>
   rw [show (!(Option.isSome (none:Option VT)))=true from rfl,ab];rw [aV];rw [aS];refine cd (b:=b) (i:=2) H1 (show (2:Nat)<3 by decide) rfl fun h2 H2=>?_;refine eU (v:=.map (some q.mb)) H2 rfl ?_;show DM (.map (some q.mb)) _;rw [bS];refine dY (E:=aN) (k:=key) EJ EK (H2.mv 1) fun h3 H3=>⟨rfl,?_⟩
   exact il (q:=⟨q.mb,ij q.m key (ve x),q.ka,q.kl,q.kc,false,q.kx⟩) ⟨hq.has.upd key x,hq.cap,fun e=>by cases e⟩ (H3.mv 1)
 | some y=>
   rw [show (!(Option.isSome (some y)))=false from rfl,aa];refine eU (v:=.map (some q.mb)) H1 rfl ?_;show DM (.map (some q.mb)) _;rw [bS];refine dY (E:=aN) (k:=key) EJ EK (H1.mv 1) fun h3 H3=>⟨rfl,?_⟩
   refine il (q:=⟨q.mb,ij q.m key (ve x),q.ka,q.kl,q.kc,q.fr,q.kx⟩) ⟨hq.has.upd key x,hq.cap,fun e=>?_⟩ (H3.mv 1);have hk:=Tb.vu (v:=x) hq.has.2 (k:=key) (by rw [hg]; rfl);obtain ⟨h1,h2⟩:=hq.fresh e;exact ⟨by rw [hk]; exact h1,by rw [h2,← an (f:=fun x:ByteArray×VT=>x.1),← hk,an]⟩
theorem BC {key:ByteArray} (H:aD (dG b l::F) h):aC prog 110 [aJ b,.string key] h fun v h'=>v=.bool (get l key).isSome∧aD (dG b (del l key)::F) h':=by
 apply Hg.ap
 unfold MC
 refine (w8 H).mono ?_
 rintro v h1 ⟨rfl,rfl⟩
 refine ⟨_,_,rfl,?_⟩
 cases hg:get l key with
 | none=>
   rw [show (!(Option.isSome (none:Option VT)))=true from rfl,ab,Tb.CS hg];exact ⟨rfl,H⟩
 | some y=>
   rw [show (!(Option.isSome (some y)))=false from rfl,aa];obtain ⟨q,hq,H1⟩:=im H;refine eU (v:=.map (some q.mb)) H1 rfl ?_;show DM (.map (some q.mb)) _;rw [bS];refine kO (E:=aN) (k:=key) EJ EK (H1.mv 1) fun h3 H3=>?_;rw [aV];rw [aS];refine cd (b:=b) (i:=2) (H3.mv 1) (show (2:Nat)<3 by decide) rfl fun h4 H4=>⟨rfl,?_⟩
   exact il (q:=⟨q.mb,iI q.m key,q.ka,q.kl,q.kc,false,q.kx⟩) ⟨hq.has.del key,hq.cap,fun e=>by cases e⟩ H4
theorem tC (hl:l.length<1099511627776) (H:aD (dG b l::F) h) :
  aC prog 167 [aJ b] h fun v h'=>∃ (a:Option Addr) (c:Nat),v=.slice a l.length c∧l.length≤c∧aD (iE a ((l.map (·.1)).map Value.string)::dG b l::F) h':=by
 obtain ⟨q,hq,H1⟩:=im H
 apply GC.ap
 unfold Me
 rw [show (some (⟨b,0,none⟩:Addr)).isNone=false from rfl,aa]
 refine eU (v:=.bool q.fr) H1 rfl ?_
 rw [bE]
 cases hf:q.fr with
 | false=>
   rw [aA,ab];refine eU (v:=.map (some q.mb)) H1 rfl ?_;show DM (.map (some q.mb)) _;rw [bS];refine (AV (m0:=some q.mb) H1).mono ?_;rintro v h2 ⟨cb,rfl,H2⟩;refine ⟨_,rfl,?_⟩;have hml:q.m.length<1099511627776:=by rw [hq.has.len]; exact hl
   refine (F62_spec (cb:=cb) (mb:=q.mb) (m:=q.m) (H2.ordT 4 [0,2,1,3]) hml).mono ?_;rintro v h3 ⟨a,c,rfl,H3⟩;rw [aF,hq.has.keys,hq.has.len] at *;obtain ⟨_,hlc,_⟩:=eZ H3;rw [aV];rw [aS];refine cd (b:=b) (i:=1) (H3.mv 2) (show (1:Nat)<3 by decide) rfl fun h4 H4=>?_;rw [aV,aS];refine cd (b:=b) (i:=2) H4 (show (2:Nat)<3 by decide) rfl fun h5 H5=>?_;refine eU (v:=.slice a l.length c) H5 rfl ?_;rw [aF];refine ⟨a,c,rfl,hlc,?_⟩;have H6:=(oD (H5.mv 1)).dup (j3 _ _);have H7:aD (tU b ⟨q.mb,q.m,a,l.length,c,true,l.map (·.1)⟩::bF aN q.mb q.m::iE a ((l.map (·.1)).map Value.string)::iE a ((l.map (·.1)).map Value.string)::F) h5:=H6.ordT 5 [2,3,0,1];exact ((il (q:=⟨q.mb,q.m,a,l.length,c,true,l.map (·.1)⟩) ⟨hq.has,hlc,fun _=>⟨rfl,rfl⟩⟩ H7).mv 1)
 | true=>
   rw [az,aa];refine eU (v:=.slice q.ka q.kl q.kc) H1 rfl ?_;rw [aF];obtain ⟨hx,hk⟩:=hq.fresh hf;refine ⟨q.ka,q.kc,by rw [hk],by rw [← hk]; exact hq.cap,?_⟩;have H6:=(H1.mv 2).dup (j3 _ _);rw [← hx];exact ((il hq (H6.ordT 4 [2,3,0,1])).mv 1)
theorem tL (H:aD (dG b l::F) h):aC prog 109 [aJ b] h fun v h'=>∃ b',v=aJ b'∧aD (dG b' l::dG b l::F) h':=by
 obtain ⟨q,hq,H1⟩:=im H
 apply zC.ap
 unfold Kl
 rw [show (some (⟨b,0,none⟩:Addr)).isNone=false from rfl,aa]
 refine eU (v:=.map (some q.mb)) H1 rfl ?_
 show DM (.map (some q.mb)) _
 rw [bS]
 refine eU (v:=.slice q.ka q.kl q.kc) H1 rfl ?_
 rw [aF]
 refine eU (v:=.bool q.fr) H1 rfl ?_
 rw [bE]
 refine (Bh (H1.mv 1)).mono ?_
 rintro v h2 ⟨mb2,rfl,H2⟩
 rw [bS]
 have HT:=H2.mv 2
 refine ⟨rfl,rfl,rfl,eU (v:=.slice q.ka q.kl q.kc) HT rfl (by rw [aF]; rfl),rfl,rfl,rfl,eU (v:=.bool q.fr) HT rfl (by rw [bE]; rfl),?_⟩
 refine aQ H2 fun b2 h3 H3=>⟨b2,rfl,?_⟩
 have H4:=(H3.mv 4).dup (j3 _ _)
 have H5:=il (b:=b) hq (H4.ordT 6 [5,4,0,1,2,3])
 exact il (b:=b2) (q:=⟨mb2,q.m,q.ka,q.kl,q.kc,q.fr,q.kx⟩) ⟨hq.has,hq.cap,hq.fresh⟩ (H5.ordT 4 [2,3,1,0])
end
end Go.Proofs.YtibdiikcigokjaaGreat.TS
namespace Go.Proofs.YtibdiikcigokjaaGreat.TS
open Go.IntKind (wrap)
open Go.Proofs.Tryz (prog)
open List (foldl_append length_drop map_append getElem?_map map_drop length_pos_of_mem nodup_cons length_filter_le map_map getElem?_drop foldl_cons drop_succ_cons)
open Go Go.RowKit Go.MapKept
open Tb (T get set del Up nj)
open AF (dF bp bB bZ)
set_option linter.unusedVariables false
set_option linter.unusedSimpArgs false
def jC (l:T VT) (k:ByteArray):T VT:=l.dropWhile fun p=>dF p.1 k
theorem kL (l:T VT) (k:ByteArray):jC l k <:+ l:=List.dropWhile_suffix _
theorem sP (l:T VT):jC l .empty=l:=by
 unfold jC
 cases l with
 | nil=>rfl
 | cons p l=>
   rw [List.dropWhile_cons];have:dF p.1 .empty=false:=by
    unfold dF;rw [decide_eq_false_iff_not];exact List.not_lt_nil _
   rw [this]
   rfl
def jr (l:T VT) (k:ByteArray):Nat:=(l.takeWhile fun p=>dF p.1 k).length
theorem yo (l:T VT) (k:ByteArray):jr l k≤l.length:=(List.takeWhile_prefix _).length_le
theorem lK (l:T VT) (k:ByteArray):l.drop (jr l k)=jC l k:=by
 unfold jr jC
 induction l with
 | nil=>rfl
 | cons p l ih=>
   rw [List.takeWhile_cons,List.dropWhile_cons];split
   · rw [ao,drop_succ_cons,ih]
   · rfl
theorem AG {l:T VT} {k:ByteArray} {i:Nat} {p:ByteArray×VT} (hi:i<jr l k) (hp:l[i]? = some p):dF p.1 k=true:=by
 unfold jr at hi
 have h1:(l.takeWhile fun p=>dF p.1 k)[i]? = some p:=by
  obtain ⟨r,hr⟩:=List.takeWhile_prefix (p:=fun p:ByteArray×VT=>dF p.1 k) (l:=l);rw [← hr,List.getElem?_append_left hi] at hp;exact hp
 have h2:=List.all_takeWhile (p:=fun p:ByteArray×VT=>dF p.1 k) (l:=l)
 exact List.all_eq_true.1 h2 p (ai h1)
theorem AI {l:T VT} (U:Up l) {k:ByteArray} {i:Nat} {p:ByteArray×VT} (hi:jr l k≤i) (hp:l[i]? = some p):dF p.1 k=false:=by
 have h1:(jC l k)[i - jr l k]? = some p:=by rw [← lK,getElem?_drop,show jr l k+(i - jr l k)=i by omega]; exact hp
 cases hb:dF p.1 k with
 | false=>rfl
 | true=>
   exfalso
   cases hf:jC l k with
   | nil=>rw [hf] at h1; cases h1
   | cons q r=>
     have hq:¬ dF q.1 k=true:=by
      unfold jC at hf;have:=List.head?_dropWhile_not (fun p:ByteArray×VT=>dF p.1 k) l;rw [hf] at this;simpa using this
     have Uf:Up (q::r):=by rw [← hf]; exact U.sublist (kL l k).sublist
     rw [hf] at h1
     rcases ay.1 (ai h1) with rfl | hm
     · exact hq hb
     · exact hq (bB (Uf.head p hm) hb)
section
variable {b:Nat} {l:T VT} {F:List aG} {h:Heap}
theorem AP {s:ByteArray}:aC prog 245 [.string s] h fun v h'=>v=.bool false∧h'=h:=by
 apply FV.ap
 unfold LO
 refine ⟨congrArg Value.bool ?_,by trivial⟩
 rw [bO,af rfl]
 rfl
theorem AU {x y:ByteArray}:aC prog 215 [.string x,.string y] h fun v h'=>v=.bool (dF x y)∧h'=h:=by
 apply F6.ap
 unfold LW
 refine AP.mono ?_
 rintro v h1 ⟨rfl,rfl⟩
 rw [bE,aa]
 exact ⟨congrArg Value.bool (AF.gK x y),by trivial⟩
theorem tB {a:Option Addr} {n c:Nat} {key:ByteArray} (U:Up l) (hr:dw h a ((l.map (·.1)).map Value.string)) (hn:l.length=n) (hm:n<1099511627776) :
  aC prog 168 [.slice a n c,.string key] h fun v h'=>(∃ z,v=.tuple #[.int .i64 (jr l key:Int),.bool z])∧h'=h:=by
 apply GA.ap
 unfold Md
 have hle:=yo l key
 have rd:∀ {i:Nat} {p:ByteArray×VT} {K:Addr→Prop},l[i]? = some p→(∀ b,ck h b=some (.string p.1)→K b)→aM a n (i:Int) 1 K:=fun {i p K} hp hK=>
  eH hr (by rw [an]; exact hn) (by rw [getElem?_map,hp]; rfl) hK
 refine ⟨fun st hh=>hh=h∧∃ i j:Nat,st=((i:Int),(j:Int))∧i≤jr l key∧jr l key≤j∧j≤n,fun st _=>(st.2 - st.1).toNat,⟨rfl,0,n,rfl,au _,by omega,av _⟩,?_⟩
 rintro st h1 ⟨rfl,i,j,rfl,hi,hj,hjn⟩
 simp only []
 by_cases hlt:i<j
 · rw [af (show ((i:Int)<(j:Int)) by omega),ab];refine ⟨by decide,?_⟩;have e1:wrap .i64 ((i:Int)+(j:Int))=((i+j:Nat):Int):=by rw [IntWalk.i64_in _ (by omega)]; omega
   have e2:wrap .u64 ((i+j:Nat):Int)=((i+j:Nat):Int):=IntWalk.u64_in _ (by omega);have e3:jK .u64 ((i+j:Nat):Int) 1=(((i+j) / 2:Nat):Int):=io .u64 (i+j) 1 (by decide);have e4:wrap .i64 (((i+j) / 2:Nat):Int)=(((i+j) / 2:Nat):Int):=cv (by omega);rw [e1,e2,e3,e4];obtain ⟨p,hp⟩:∃ p,l[(i+j) / 2]? = some p:=⟨_,ah (by omega)⟩
   refine rd hp fun b2 hc=>dl hc ?_;refine AU.mono ?_;rintro v h2 ⟨rfl,rfl⟩;rw [bE]
   cases hb:dF p.1 key with
   | true=>
     rw [ab,aH (by omega)];refine ⟨⟨by trivial,(i+j) / 2+1,j,rfl,?_,hj,hjn⟩,by omega⟩
     rcases Nat.lt_or_ge ((i+j) / 2) (jr l key) with h1 | h1
     · exact h1
     · rw [AI U h1 hp] at hb; cases hb
   | false=>
     rw [aa];refine ⟨⟨by trivial,i,(i+j) / 2,rfl,hi,?_,by omega⟩,by omega⟩
     rcases Nat.lt_or_ge ((i+j) / 2) (jr l key) with h1 | h1
     · rw [AG h1 hp] at hb; cases hb
     · exact h1
 · rw [ae (show ¬ ((i:Int)<(j:Int)) by omega),aa];have ei:i=jr l key:=by omega
   subst ei;by_cases hl:jr l key<n
   · rw [af (show ((jr l key:Int)<(n:Int)) by omega),ab];obtain ⟨p,hp⟩:∃ p,l[jr l key]? = some p:=⟨_,ah (by omega)⟩
     refine rd hp fun b2 hc=>dl hc ?_
     cases bL p.1 key with
     | true=>exact ⟨⟨_,rfl⟩,by trivial⟩
     | false=>
       rw [aa];refine rd hp fun b3 hc3=>dl hc3 ?_;have h54:∀ {s:ByteArray} {h:Heap},aC prog 216 [.string s] h fun v h'=>v=.bool false∧h'=h:=fun {s h}=>by
        apply F5.ap;unfold LV;refine ⟨congrArg Value.bool ?_,by trivial⟩;rw [bO,af rfl]
        rfl
       refine h54.mono ?_;rintro v h2 ⟨rfl,rfl⟩;rw [bE,aa];exact ⟨⟨_,rfl⟩,by trivial⟩
   · rw [ae (by omega),aa];exact ⟨⟨_,rfl⟩,by trivial⟩
structure AK where
 l:T VT
 m:List (ByteArray×Value)
 mb:Nat
 a:Option Addr
 n:Nat
 c:Nat
structure zm (s:T VT) (q:AK):Prop where
 has:nj ve q.m q.l
 sub:s <:+ q.l
 len:q.n=s.length
 small:q.n<1099511627776
def jd (q:AK) (b0 b1:Nat) (s:T VT):aG:=dh [mC (zm s q),pt b0 (.cells #[.slice q.a q.n q.c] 97 (0,0)),pt b1 (.cells #[.map (some q.mb)] 175 (0,0)),iE q.a ((s.map fun p:ByteArray×VT=>p.1).map Value.string),bF aN q.mb q.m]
abbrev rA (b0 b1:Nat):Value:=.func (.func 217) #[] #[aJ b0,aJ b1]
theorem vB {q:AK} {b0 b1:Nat} {s:T VT} (H:aD (jd q b0 b1 s::F) h):zm s q∧aD (pt b0 (.cells #[.slice q.a q.n q.c] 97 (0,0))::pt b1 (.cells #[.map (some q.mb)] 175 (0,0))::iE q.a ((s.map fun p:ByteArray×VT=>p.1).map Value.string)::bF aN q.mb q.m::F) h:=
 cC.1 H.open
theorem vA {q:AK} {b0 b1:Nat} {s:T VT} (hq:zm s q) (H:aD (pt b0 (.cells #[.slice q.a q.n q.c] 97 (0,0))::pt b1 (.cells #[.map (some q.mb)] 175 (0,0))::iE q.a ((s.map fun p:ByteArray×VT=>p.1).map Value.string)::bF aN q.mb q.m::F) h):aD (jd q b0 b1 s::F) h:=
 aD.shut (m:=[mC (zm s q),pt b0 (.cells #[.slice q.a q.n q.c] 97 (0,0)),pt b1 (.cells #[.map (some q.mb)] 175 (0,0)),iE q.a ((s.map fun p:ByteArray×VT=>p.1).map Value.string),bF aN q.mb q.m]) (cC.2 ⟨hq,H⟩)
theorem BV {s l:T VT} (U:Up l) (hs:s <:+ l) {i:Nat} {p:ByteArray×VT} (hp:s[i]? = some p):get l p.1=some p.2:=Tb.f9 U.nodup (hs.subset (ai hp))
theorem AS {q:AK} {b0 b1:Nat} {s:T VT} {yv:Value} (G:Nat→List aG) (Out:Heap→Prop) (start:aD (jd q b0 b1 s::G 0) h)
  (round:∀ i p h2,s[i]? = some p→aD (jd q b0 b1 s::G i) h2→cK prog yv [.string p.1,ve p.2] h2 fun r h3=>∃ go,r=.bool go∧(go=true→aD (jd q b0 b1 s::G (i+1)) h3)∧(go=false→Out h3))
  (fin:∀ h2,aD (jd q b0 b1 s::G s.length) h2→Out h2):aC prog 217 [yv,aJ b0,aJ b1] h fun v h'=>Out h':=by
 refine F4 (c0:=⟨b0,0,none⟩) (c1:=⟨b1,0,none⟩) ?_
 unfold JN
 obtain ⟨hq,S0⟩:=vB start
 refine fW (v:=.slice q.a q.n q.c) S0.get rfl ?_
 rw [aF]
 have hlen:=hq.len
 have hsm:=hq.small
 refine ⟨fun st hh=>∃ i:Nat,st=(i:Int)∧i≤q.n∧aD (jd q b0 b1 s::G i) hh,fun st _=>((q.n:Int) - st).toNat,⟨0,rfl,au _,start⟩,?_⟩
 rintro st h1 ⟨i,rfl,hi,H1⟩
 by_cases hlt:i<q.n
 · rw [af (show ((i:Int)<(q.n:Int)) by omega),ab];obtain ⟨p,hp⟩:∃ p,s[i]? = some p:=⟨_,ah (by omega)⟩
   obtain ⟨_,S⟩:=vB H1;refine eH (ip (S.mv 2)) (by rw [an]; exact hlen.symm) (by rw [getElem?_map,hp]; rfl) fun b2 hc=>dl hc ?_;refine fW (v:=.map (some q.mb)) (S.mv 1).get rfl ?_;rw [bS];obtain ⟨es,hes,f,hf,hv,_⟩:=look hq.has (S.mv 3) p.1;refine ⟨es,hes,f,hf,?_⟩;rw [hv,Nj,DV,BV hq.has.2 hq.sub hp,Option.getD_some];refine (round i p h1 hp H1).mono ?_;rintro r h2 ⟨go,rfl,hgo,hstop⟩;rw [bE]
   cases go with
   | false=>exact hstop rfl
   | true=>
     rw [az,aa,aH (by omega)];exact ⟨⟨i+1,rfl,by omega,hgo rfl⟩,by show ((q.n:Int) - ((i+1:Nat):Int)).toNat<((q.n:Int) - (i:Int)).toNat; omega⟩
 · rw [ae (by omega),aa];have ei:i=s.length:=by omega
   subst ei;exact fin h1 H1
theorem range_tab {q:AK} {b0 b1:Nat} {s:T VT} {B:Nat→(LoopState→Option Code→Obj)→List Value→Heap→(Value→Heap→Prop)→Prop} {A:Option Code→Heap→Prop} (G:Nat→List aG) (X:Code→List aG) (H:aD (jd q b0 b1 s::G 0) h)
  (round:∀ i p (L:Nat) (rec:LoopState→Option Code→Obj) (h2:Heap) (Q:Value→Heap→Prop),s[i]? = some p→aD (pt L (rec .ready none)::iL h.size::jd q b0 b1 s::G i) h2→
   (∀ h3,aD (pt L (rec .busy none)::iL h.size::jd q b0 b1 s::G (i+1)) h3→h3[L]? = some (rec .busy none)∧Q (.bool true) (h3.setIfInBounds L (rec .ready none)))→
   (∀ j h3,aD (pt L (rec .busy none)::iL h.size::X j) h3→h3[L]? = some (rec .busy none)∧Q (.bool false) (h3.setIfInBounds L (rec .done (some j))))→B L rec [.string p.1,ve p.2] h2 Q)
  (after:∀ h2,aD (iL h.size::jd q b0 b1 s::G s.length) h2→A none h2) (afterX:∀ j h2,aD (iL h.size::X j) h2→A (some j) h2) :
  gt prog (rA b0 b1) 2 none h B A:=
 xI s (fun p:ByteArray×VT=>[.string p.1,ve p.2]) (jd q b0 b1 s) G X H (fun _=>rfl) (fun yv G' Out h1 H1 hr hf=>AS G' Out H1 hr hf) round after afterX
theorem By {key:ByteArray} (hl:l.length<1099511627776) (H:aD (dG b l::F) h):aC prog 115 [aJ b,.string key] h fun v h'=>∃ q b0 b1,v=rA b0 b1∧aD (jd q b0 b1 (jC l key)::dG b l::F) h':=by
 apply zA.ap
 unfold Ki
 refine (tL H).mono ?_
 rintro v h1 ⟨b2,rfl,H1⟩
 show DP (.pointer (some ⟨b2,0,none⟩)) _
 rw [bC]
 refine (tC hl H1).mono ?_
 rintro v h2 ⟨a,c,rfl,hlc,H2⟩
 rw [aF]
 obtain ⟨q,hq,H3⟩:=im (H2.mv 1)
 have hrd:=ip (H3.mv 3)
 refine (tB hq.has.2 hrd rfl hl).mono ?_
 rintro v h3 ⟨⟨z,rfl⟩,rfl⟩
 refine ⟨_,_,rfl,?_⟩
 have hle:=yo l key
 refine gn hle hlc (av c) ?_
 refine eU (v:=.map (some q.mb)) H3 rfl ?_
 show DM (.map (some q.mb)) _
 rw [bS]
 have h37:aC prog 169 [.slice (gJ a (jr l key) c 1) (l.length - jr l key) (c - jr l key),.map (some q.mb)] h3 fun v h'=>∃ b0 b1,v=rA b0 b1∧aD (pt b1 (.cells #[.map (some q.mb)] 175 (0,0))::pt b0 (.cells #[.slice (gJ a (jr l key) c 1) (l.length - jr l key) (c - jr l key)] 97 (0,0))::tU b2 q::bF aN q.mb q.m::zK q::iE a ((l.map (·.1)).map Value.string)::dG b l::F) h':=by
  apply zu.ap;unfold J4;exact aQ H3 fun b0 h4 H4=>aQ H4 fun b1 h5 H5=>⟨b0,b1,rfl,H5⟩
 refine h37.mono ?_
 rintro v h4 ⟨b0,b1,rfl,H4⟩
 refine ⟨_,rfl,⟨l,q.m,q.mb,gJ a (jr l key) c 1,l.length - jr l key,c - jr l key⟩,b0,b1,rfl,?_⟩
 have hfl:(jC l key).length=l.length - jr l key:=by rw [← lK,length_drop]
 have H5:=(H4.mv 5).imp (B:=iE (gJ a (jr l key) c 1) (((jC l key).map (·.1)).map Value.string)) fun r hr=>⟨hr.1,fun h hs=>by
  have h1:=(hr.2 h hs).sub (jr l key) (l.length - jr l key) c (fun e=>by omega);rw [← lK];rw [ar (by simp)] at h1
  rwa [map_drop,map_drop]⟩
 refine vA ⟨hq.has,kL l key,hfl.symm,(by show l.length - jr l key<_; omega)⟩ ?_
 exact H5.ordT 7 [2,1,0,4,6]
theorem F46_spec (hl:l.length<1099511627776) (H:aD (dG b l::F) h):aC prog 46 [aJ b] h fun v h'=>∃ q b0 b1,v=rA b0 b1∧aD (jd q b0 b1 l::dG b l::F) h':=by
 apply Dt.ap
 unfold Nz
 refine (By (key:=.empty) hl H).mono ?_
 rintro v h1 ⟨q,b0,b1,rfl,H1⟩
 rw [sP] at H1
 exact ⟨_,rfl,q,b0,b1,rfl,H1⟩
abbrev Lb (p:ByteArray×VT):List Value:=[.string p.1,ve p.2]
def ofL (es:T VT):T VT:=es.foldl (fun l p=>set p.1 p.2 l) []
theorem Dy {es:T VT} {a:Option Addr} {n c:Nat} (hr:∀ h',aD F h'→dw h' a (es.flatMap Lb)) (hn:es.length=n) (hm:n<1099511627776) (H:aD F h) :
  aC prog 34 [.slice a n c] h fun v h'=>∃ b,v=aJ b∧aD (dG b (ofL es)::F) h':=by
 apply JD.ap
 unfold Ot
 refine aQ H fun mb h1 H1=>aQ H1 fun b1 h2 H2=>?_
 refine ⟨fun st hh=>∃ (i:Nat) (m:List (ByteArray×Value)),st=(i:Int)∧i≤n∧nj ve m (ofL (es.take i))∧aD (tU b1 ⟨mb,m,none,0,0,false,[]⟩::bF aN mb m::F) hh,fun st _=>((n:Int) - st).toNat,⟨0,[],rfl,au _,nj.new ve,(nH aN (H2.mv 1)).mv 1⟩,?_⟩
 rintro st h3 ⟨i,m,rfl,hi,hm2,H3⟩
 by_cases hlt:i<n
 · rw [af (show ((i:Int)<(n:Int)) by omega),ab];obtain ⟨p,hp⟩:∃ p,es[i]? = some p:=⟨_,ah (by omega)⟩
   refine ce (f:=Lb) (fun _=>rfl) (by decide) (hr h3 H3.drop.drop) hn hp fun ba hba hc=>⟨_,hc 0 _ rfl,_,hc 1 _ rfl,p.1,p.2,rfl,?_⟩
   refine aQ H3 fun b2 h4 H4=>?_;refine cd H4 (show (0:Nat)<2 by decide) rfl fun h5 H5=>cd H5 (show (1:Nat)<2 by decide) rfl fun h6 H6=>?_;have H7:aD (pt b2 (.cells #[.string p.1,ve p.2] 178 (0,0))::tU b1 ⟨mb,m,none,0,0,false,[]⟩::bF aN mb m::F) h6:=H6;refine eU (v:=.map (some mb)) (H7.mv 1) rfl ?_;show DM (.map (some mb)) _;rw [bS];refine bu H7 rfl ?_;refine eU (v:=ve p.2) H7 rfl ?_;rw [DV];refine dY (E:=aN) (k:=p.1) EJ EK (H7.mv 2) fun h8 H8=>?_;rw [aH (by omega)];have e:ofL (es.take (i+1))=set p.1 p.2 (ofL (es.take i)):=by
    unfold ofL;rw [ax,hp,foldl_append]
    rfl
   refine ⟨⟨i+1,ij m p.1 (ve p.2),rfl,by omega,by rw [e]; exact hm2.upd p.1 p.2,?_⟩,by show ((n:Int) - ((i+1:Nat):Int)).toNat<((n:Int) - (i:Int)).toNat; omega⟩;exact H8.ordT 3 [2,0]
 · rw [ae (by omega),aa];rw [ar (by omega)] at hm2;refine ⟨b1,rfl,il (q:=⟨mb,m,none,0,0,false,[]⟩) ⟨hm2,av _,fun e=>by cases e⟩ ?_⟩;exact (iq H3).ordT 3 [1,2,0]
end
end Go.Proofs.YtibdiikcigokjaaGreat.TS
namespace Go.Proofs.YtibdiikcigokjaaGreat.TS
open Go.IntKind (wrap)
open Go.Proofs.Tryz (prog)
open List (foldl_append length_drop map_append getElem?_map map_drop length_pos_of_mem nodup_cons length_filter_le map_map getElem?_drop foldl_cons drop_succ_cons)
open Go Go.RowKit
open Tb (T get set del Up nj)
open AF (dF bp bB bZ)
set_option linter.unusedVariables false
set_option linter.unusedSimpArgs false
abbrev Ch:=ByteArray×VT×Bool
abbrev gk (x:Ch):List Value:=[.string x.1,ve x.2.1,.bool x.2.2]
abbrev NJ:Nat:=40
def dget (a b:T VT) (k:ByteArray):Option (VT×Bool):=match get b k with
 | some v=>if get a k=some v then none else some (v,false)
 | none=>if (get a k).isSome then some (vz,true) else none
def jt (a b:T VT):List Ch:=(b.filter fun p => !decide (get a p.1=some p.2)).map fun p=>(p.1,p.2,false)
def lu (a b:T VT):List Ch:=(a.filter fun p=>(get b p.1).isNone).map fun p=>(p.1,vz,true)
theorem zV (a b:T VT):(jt a b).map (fun x:Ch=>x.1)=(b.filter fun p => !decide (get a p.1=some p.2)).map (·.1):=by rw [jt,map_map]; rfl
theorem zU (a b:T VT):(lu a b).map (fun x:Ch=>x.1)=(a.filter fun p=>(get b p.1).isNone).map (·.1):=by rw [lu,map_map]; rfl
theorem oE {a b:T VT} (Ua:Up a) (Ub:Up b):((jt a b++lu a b).map (fun x:Ch=>x.1)).Nodup:=by
 rw [map_append,List.nodup_append,zV,zU]
 refine ⟨Ub.nodup.sublist (List.filter_sublist.map _),Ua.nodup.sublist (List.filter_sublist.map _),?_⟩
 intro x hx y hy e
 obtain ⟨p,hp,rfl⟩:=List.mem_map.1 hx
 obtain ⟨q,hq,rfl⟩:=List.mem_map.1 hy
 have h1:=(List.mem_filter.1 hp).1
 have h2:=(List.mem_filter.1 hq).2
 rw [← e,Tb.f9 Ub.nodup h1] at h2
 cases h2
theorem yM {a b:T VT} (Ua:Up a) (Ub:Up b) (k:ByteArray):get (V:=VT×Bool) (jt a b++lu a b) k=dget a b k:=by
 have hn:=oE Ua Ub
 unfold dget
 cases hb:get b k with
 | some v=>
   have hbm:=Tb.gR hb;by_cases ha:get a k=some v
   · simp only [ha,if_true];rw [Tb.kh];intro p hp e
     rcases List.mem_append.1 hp with hp | hp
     · obtain ⟨q,hq,rfl⟩:=List.mem_map.1 hp;obtain ⟨h1,h2⟩:=List.mem_filter.1 hq;have h3:=Tb.f9 Ub.nodup h1;simp only at e;rw [e,hb] at h3;cases h3;rw [e,ha] at h2;simp at h2
     · obtain ⟨q,hq,rfl⟩:=List.mem_map.1 hp;have h2:=(List.mem_filter.1 hq).2;simp only at e;rw [e,hb] at h2;cases h2
   · simp only [ha,if_false];refine Tb.f9 hn (List.mem_append.2 (.inl (List.mem_map.2 ⟨(k,v),List.mem_filter.2 ⟨hbm,?_⟩,rfl⟩)));simp [ha]
 | none=>
   simp only []
   cases ha:get a k with
   | none=>
     simp only [Option.isSome_none,Bool.false_eq_true,if_false];rw [Tb.kh];intro p hp e
     rcases List.mem_append.1 hp with hp | hp
     · obtain ⟨q,hq,rfl⟩:=List.mem_map.1 hp;have h1:=Tb.f9 Ub.nodup (List.mem_filter.1 hq).1;simp only at e;rw [e,hb] at h1;cases h1
     · obtain ⟨q,hq,rfl⟩:=List.mem_map.1 hp;have h1:=Tb.f9 Ua.nodup (List.mem_filter.1 hq).1;simp only at e;rw [e,ha] at h1;cases h1
   | some x=>
     simp only [Option.isSome_some,if_true];refine Tb.f9 hn (List.mem_append.2 (.inr (List.mem_map.2 ⟨(k,x),List.mem_filter.2 ⟨Tb.gR ha,?_⟩,rfl⟩)));simp [hb]
structure Diffs (a b:T VT) (d:List Ch):Prop where
 up:Up (V:=VT×Bool) d
 at_:∀ k,get (V:=VT×Bool) d k=dget a b k
theorem Diffs.of {a b:T VT} {d:List Ch} (Ua:Up a) (Ub:Up b) (hp:d.Perm (jt a b++lu a b)) (hs:d.Pairwise fun x y=>dF y.1 x.1=false):Diffs a b d:=by
 have hn:=oE Ua Ub
 have hnd:(d.map (fun x:Ch=>x.1)).Nodup:=(hp.map _).nodup_iff.2 hn
 refine ⟨?_,fun k=>?_⟩
 · refine (List.Pairwise.and hs (List.pairwise_map.1 hnd)).imp fun {x y} h=>?_;exact bZ (fun e=>h.2 e.symm) (by rw [h.1]; simp)
 · rw [← yM Ua Ub k]
   cases hg:get (V:=VT×Bool) (jt a b++lu a b) k with
   | none=>
     rw [Tb.kh] at hg ⊢;exact fun p hp2=>hg p (hp.mem_iff.1 hp2)
   | some v=>exact Tb.f9 hnd (hp.mem_iff.2 (Tb.gR hg))
theorem Diffs.of_len {a b:T VT} {d:List Ch} (D:Diffs a b d) (Ua:Up a) (Ub:Up b):d.length≤a.length+b.length:=by
 let r:=jt a b++lu a b
 have hn:=oE Ua Ub
 have hsub:∀ x∈d,x∈r:=fun x hx=>by
  have h1:get (V:=VT×Bool) d x.1=some x.2:=Tb.f9 D.up.nodup hx;rw [D.at_,← yM Ua Ub] at h1;exact Tb.gR h1
 letI:BEq Ch:=@instBEqOfDecidableEq Ch inferInstance
 have hlen:∀ (d r:List Ch),d.Nodup→(∀ x∈d,x∈r)→d.length≤r.length:=by
  intro d
  induction d with
  | nil=>intro r _ _; exact au _
  | cons x d ih=>
    intro r hd hs;rw [nodup_cons] at hd;have hx:=hs x (by simp);have h2:=ih (r.erase x) hd.2 fun y hy=>(List.mem_erase_of_ne (fun e=>hd.1 (by rw [← e]; exact hy))).2 (hs y (by simp [hy]));rw [List.length_erase_of_mem hx] at h2;have:=length_pos_of_mem hx;rw [ao];omega
 have hdn:d.Nodup:=(List.Pairwise.of_map (S:=fun a b:ByteArray=>a≠b) (fun x:Ch=>x.1) (fun a b h e=>h (by rw [e])) D.up.nodup)
 refine Nat.le_trans (hlen d r hdn hsub) ?_
 show (jt a b++lu a b).length≤_
 rw [am,jt,lu,an,an]
 have h1:=length_filter_le (fun p:ByteArray×VT => !decide (get a p.1=some p.2)) b
 have h2:=length_filter_le (fun p:ByteArray×VT=>(get b p.1).isNone) a
 omega
def dL (l:T VT) (es:List Ch):T VT:=es.foldl (fun l x=>if x.2.2=true then del l x.1 else set x.1 x.2.1 l) l
theorem appL_up {l:T VT} (U:Up l):∀ (es:List Ch),Up (dL l es):=by
 intro es
 unfold dL
 induction es generalizing l with
 | nil=>exact U
 | cons x es ih=>
   rw [foldl_cons];split
   · exact ih (U.del _)
   · exact ih (U.set _ _)
end Go.Proofs.YtibdiikcigokjaaGreat.TS
