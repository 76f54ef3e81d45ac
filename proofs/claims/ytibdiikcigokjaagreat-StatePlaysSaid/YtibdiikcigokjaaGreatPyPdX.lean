/- What a crash may leave of a directory: each of the states since it was last made safe,the files that count being safe. -/
import Derived.Test.YtibdiikcigokjaaGreatPyPaX
import Derived.Test.YtibdiikcigokjaaGreatPyPbX
import Derived.Test.YtibdiikcigokjaaGreatPyPcX
namespace Go.Proofs.YtibdiikcigokjaaGreat
open Go.IntKind (wrap)
open Go.Proofs.Tryz (prog)
open List (mem_append take_append_drop getElem?_map mem_singleton cons_append)
open Go Go.RowKit
set_option linter.unusedVariables false
set_option linter.unusedSimpArgs false
namespace AF
open Frame (cH)
end AF
namespace AF
open Frame (cH dE gh)
section
variable {A:FS} {dir t b:ByteArray} {T:ln} {P Q:ln→Prop}
end
end AF
namespace AF
open Frame (cH dE gh)
end AF
open Go Go.RowKit Go.MapKept
namespace AF
section
variable {α:Type} {dir:ByteArray} {c:Nat} {p:Int→Bool}
theorem pH {n:Int} {l:List Int} {A:FS} {T:List (Int×α)} {s:Bool} (hp:p n=true) (he:(A.remove dir (cI c n)).2=0):fY dir c p (n::l) A T s=fY dir c p l (A.remove dir (cI c n)).1 (rG n T) true:=by
 conv=>lhs; unfold fY
 rw [al hp,al he]
theorem qP {n:Int} {l:List Int} {A:FS} {T:List (Int×α)} {s:Bool} (hp:p n=true) (he:¬ (A.remove dir (cI c n)).2=0):fY dir c p (n::l) A T s=((A.remove dir (cI c n)).1,T,s,(A.remove dir (cI c n)).2):=by
 conv=>lhs; unfold fY
 rw [al hp,ak he]
theorem pG {n:Int} {l:List Int} {A:FS} {T:List (Int×α)} {s:Bool} (hp:¬ p n=true):fY dir c p (n::l) A T s=fY dir c p l A T s:=by
 conv=>lhs; unfold fY
 rw [ak hp]
theorem lD:∀ (l m:List Int) (A:FS) (T:List (Int×α)) (s:Bool),(fY dir c p l A T s).2.2.2≠0→fY dir c p (l++m) A T s=fY dir c p l A T s
 | [],m,A,T,s,h=>absurd rfl h
 | n::l,m,A,T,s,h=>by
   rw [cons_append];by_cases hp:p n=true
   · by_cases he:(A.remove dir (cI c n)).2=0
     · rw [pH hp he] at h ⊢;rw [pH hp he];exact lD l m _ _ _ h
     · rw [qP hp he,qP hp he]
   · rw [pG hp] at h ⊢;rw [pG hp];exact lD l m _ _ _ h
theorem lC:∀ (l m:List Int) (A:FS) (T:List (Int×α)) (s:Bool),(fY dir c p l A T s).2.2.2=0→fY dir c p (l++m) A T s=fY dir c p m (fY dir c p l A T s).1 (fY dir c p l A T s).2.1 (fY dir c p l A T s).2.2.1
 | [],m,A,T,s,h=>rfl
 | n::l,m,A,T,s,h=>by
   rw [cons_append];by_cases hp:p n=true
   · by_cases he:(A.remove dir (cI c n)).2=0
     · rw [pH hp he] at h ⊢;rw [pH hp he];exact lC l m _ _ _ h
     · rw [qP hp he] at h;exact absurd h he
   · rw [pG hp] at h ⊢;rw [pG hp];exact lC l m _ _ _ h
theorem qO:∀ (l:List Int) (A:FS) (T:List (Int×α)) (s:Bool),A.WF→(fY dir c p l A T s).1.WF∧(fY dir c p l A T s).1.steps≤A.steps+l.length
 | [],A,T,s,W=>⟨W,av _⟩
 | n::l,A,T,s,W=>by
   unfold fY;by_cases hp:p n=true
   · rw [al hp];have h1:=iR (A:=A) dir (cI c n);by_cases he:(A.remove dir (cI c n)).2=0
     · rw [al he];obtain ⟨a,b⟩:=qO l (A.remove dir (cI c n)).1 (rG n T) true (W.remove _ _);exact ⟨a,by rw [ao]; omega⟩
     · rw [ak he];exact ⟨W.remove _ _,by rw [ao]; simp only []; omega⟩
   · rw [ak hp];obtain ⟨a,b⟩:=qO l A T s W;exact ⟨a,by rw [ao]; omega⟩
end
theorem An {β:Type} {l:List β} {p:β→Bool} (h:∀ x∈l,p x=true):l.filter p=l:=List.filter_eq_self.2 h
end AF
open AF (cI kZ ln)
open Frame (cH)
open Hex (cE)
abbrev OO:=Nat→Int→gX
theorem i2 {n:Int} (h:kZ n):((ff n:Nat):Int)=n∧ff n<9223372036854775808:=by
 obtain ⟨h0,h1⟩:=h
 have e:n=((n.toNat:Nat):Int):=by omega
 rw [e,ma (by omega)]
 exact ⟨rfl,by omega⟩
theorem mT {c:Nat} (hc:c<256) (n:Int):sb (cI c n)=c::46::cE 16 (ff n):=AF.Fnm.Cr hc _
theorem nL (c d:Nat) {m n:Int} (hm:nh m) (hn:nh n) (h:cI c m=cI d n) (hc:c<256:=by decide) (hd:d<256:=by decide):c=d∧m=n:=AF.E6 hc hd hm.id hn.id h
open AF (cI kZ ln fY)
section
variable {F:List aG} {h:Heap} {b fsb:Nat} {S:eT} {A:AF.FS} {T:ln} {c:OO} {dir:ByteArray}
def fg (D:List (Int×Unit)) (cc:Nat) (ks:List ByteArray):Prop:=xr D∧∀ v,(v,())∈D↔nh v∧cI cc v∈ks
theorem fg.add {D:List (Int×Unit)} {cc:Nat} {ks:List ByteArray} (hI:fg D cc ks) (hc:cc<256) {v:Int} (hv:nh v):fg (eI v () D) cc (ks++[cI cc v]):=by
 refine ⟨kv hI.1,fun w=>?_⟩
 rw [ir hI.1,hI.2,Prod.mk.injEq,mem_append,mem_singleton]
 constructor
 · rintro (⟨rfl,_⟩ | ⟨_,h1,h2⟩)
   · exact ⟨hv,.inr rfl⟩
   · exact ⟨h1,.inl h2⟩
 · rintro ⟨h1,h2 | h2⟩
   · by_cases e:w=v
     · exact .inl ⟨e,rfl⟩
     · exact .inr ⟨e,h1,h2⟩
   · exact .inl ⟨(nL cc cc h1 hv h2 hc hc).2,rfl⟩
theorem fg.skip {D:List (Int×Unit)} {cc dd:Nat} {ks:List ByteArray} (hI:fg D cc ks) (hc:cc<256) (hd:dd<256) (hne:cc≠dd) {v:Int} (hv:nh v):fg D cc (ks++[cI dd v]):=by
 refine ⟨hI.1,fun w=>?_⟩
 rw [hI.2,mem_append,mem_singleton]
 constructor
 · rintro ⟨h1,h2⟩;exact ⟨h1,.inl h2⟩
 · rintro ⟨h1,h2 | h2⟩
   · exact ⟨h1,h2⟩
   · exact absurd (nL cc dd h1 hv h2 hc hd).1 hne
end
def eT.drop (S:eT) (A:AF.FS) (below:Int):AF.FS×eT×Nat:=
 let at_:=dI (S.N.map (·.1)) below
 if at_=0 then (A,S,0) else
 let r:=fY S.dir 100 (fun n=>decide (n≤at_)) (S.D.map (·.1)) A S.D false
 if r.2.2.2≠0 then (r.1,{ S with D:=r.2.1 },r.2.2.2) else
 let q:=fY S.dir 110 (fun n=>decide (n<at_)) (S.N.map (·.1)) r.1 S.N r.2.2.1
 if q.2.2.2≠0 then (q.1,{ S with D:=r.2.1,N:=q.2.1 },q.2.2.2) else
 if q.2.2.1=true then ((q.1.syncDir S.dir).1,{ S with D:=r.2.1,N:=q.2.1 },(q.1.syncDir S.dir).2) else (q.1,{ S with D:=r.2.1,N:=q.2.1 },0)
section
variable {F:List aG} {h:Heap} {b fsb:Nat} {S:eT} {A:AF.FS}
set_option maxHeartbeats 1000000 in
theorem w9 {k q dm nm b0 b2:Nat} {sg dir:ByteArray} {gf:Fn} {gp gc:Array Value} {p:Int→Bool} {C:aG} {TT:List (Int×Unit)} {s:Bool} (hk:k<256) (hsg:sg++⟨#[46]⟩=cn [k,46]) (hz:sg.size=1)
  (hg:∀ (n:Int) (F':List aG) (h':Heap),aD (C::F') h'→cK prog (.func gf gp gc) [.int .i64 n] h' fun v h''=>v=.bool (p n)∧h''=h')
  (W:A.WF) (hs:A.steps+TT.length+10<1099511627776) (hd:dir.size<4611686018427387904) (hT:TT.length<1000000000)
  (H:aD (gu Bu q TT::pt b (.cells (nw fsb dir dm nm) 86 (0,0))::cg fsb A::pt b0 (.cells #[aJ b] 23 (0,0))::pt b2 (.cells #[.bool s] 4 (0,0))::C::F) h) :
  aC prog 47 [.map (some q),.string sg,.func gf gp gc,.pointer (some ⟨b0,0,none⟩),.pointer (some ⟨b2,0,none⟩)] h fun v h'=>v=.int .i64 (((fY dir k p (TT.map (·.1)) A TT s).2.2.2:Nat):Int)∧
   (fY dir k p (TT.map (·.1)) A TT s).1.WF∧(fY dir k p (TT.map (·.1)) A TT s).1.steps≤A.steps+TT.length∧
   aD (gu Bu q (fY dir k p (TT.map (·.1)) A TT s).2.1::pt b (.cells (nw fsb dir dm nm) 86 (0,0))::cg fsb (fY dir k p (TT.map (·.1)) A TT s).1::pt b0 (.cells #[aJ b] 23 (0,0))::pt b2 (.cells #[.bool (fY dir k p (TT.map (·.1)) A TT s).2.2.1] 4 (0,0))::C::F) h':=by
 have hwf:=AF.qO (dir:=dir) (c:=k) (p:=p) (TT.map (·.1)) A TT s W
 rw [an] at hwf
 apply Js.ap
 unfold Oe
 refine (Dr (m0:=some q) H).mono ?_
 rintro v h1 ⟨cb,rfl,H1⟩
 refine ⟨_,rfl,?_⟩
 obtain ⟨m,H2⟩:=jW (H1.mv 1)
 have I:=nB (H2.mv 1)
 have hn:=xL H2
 have hlm:=I.length hn
 refine (Ds (H2.ordT 3 [2,0,1]) (by omega)).mono ?_
 rintro v h2 ⟨a,c,rfl,H3⟩
 rw [aF]
 have hsort:gD (m.map (·.1))=TT.map (·.1):=B3 (I.perm hn) (List.pairwise_map.2 I.up)
 have hml:m.length=TT.length:=hlm
 rw [hsort,hml] at H3
 rw [hml]
 let St:Nat→AF.FS×List (Int×Unit)×Bool×Nat:=fun i=>fY dir k p ((TT.map (·.1)).take i) A TT s
 have H4:aD (gu Bu q (St 0).2.1::aL 2 1 a TT.length c ((TT.map (·.1)).map iv)::pt b (.cells (nw fsb dir dm nm) 86 (0,0))::cg fsb (St 0).1::pt b0 (.cells #[aJ b] 23 (0,0))::pt b2 (.cells #[.bool (St 0).2.2.1] 4 (0,0))::C::F) h2:=jV (H3.ordT 3 [1,2,0])
 refine aU.upto TT.length (fun i (s0:Int) h'=>s0=(i:Int)∧i≤TT.length∧(St i).2.2.2=0∧(St i).1.WF∧(St i).1.steps≤A.steps+i∧
   aD (gu Bu q (St i).2.1::aL 2 1 a TT.length c ((TT.map (·.1)).map iv)::pt b (.cells (nw fsb dir dm nm) 86 (0,0))::cg fsb (St i).1::pt b0 (.cells #[aJ b] 23 (0,0))::pt b2 (.cells #[.bool (St i).2.2.1] 4 (0,0))::C::F) h')
  (fun s0=>TT.length - s0.toNat) (fun i s0 h' hh=>⟨hh.2.1,by rw [hh.1]; omega⟩) ⟨rfl,au _,rfl,W,av _,H4⟩ ?_ ?_
 · rintro i s0 h' again hi ⟨rfl,_,he,Wi,hsi,K⟩ go;rw [af (show ((i:Int)<(TT.length:Int)) by omega),ab];obtain ⟨n,hni⟩:∃ n,(TT.map (·.1))[i]? = some n:=⟨_,ah (by rw [an]; exact hi)⟩
   have htake:(TT.map (·.1)).take (i+1)=(TT.map (·.1)).take i++[n]:=by rw [ax,hni]; rfl
   have hst:St (i+1)=fY dir k p [n] (St i).1 (St i).2.1 (St i).2.2.1:=by
    show fY _ _ _ ((TT.map (·.1)).take (i+1)) _ _ _=_;rw [htake];exact AF.lC _ _ _ _ _ he
   have hw:wrap .i64 ((i:Int)+1)=((i+1:Nat):Int):=aH (by omega);refine cm (v:=iv n) (aI (K.mv 1)) (by simp) (by rw [getElem?_map,hni]; rfl) fun ba hb hc=>⟨_,hc,n,rfl,?_⟩
   refine (hg n _ _ (K.mv 6)).mono ?_;rintro v h3 ⟨rfl,rfl⟩;rw [bE];by_cases hp:p n=true
   · rw [hp,az,aa];refine zj (K.mv 4).get ?_;rw [aY];refine mu (x:=fsb) (K.mv 2) rfl ?_;refine zj (K.mv 4).get ?_;rw [aY];refine bu (x:=dir) (K.mv 2) rfl ?_;refine (lV (c:=k) (n:=n) hsg hz K).mono ?_;rintro v h4 ⟨rfl,K2⟩;rw [aR];refine ⟨zj (K2.mv 4).get rfl,rfl,rfl,mu (x:=fsb) (K2.mv 2) rfl rfl,zj (K2.mv 4).get rfl,rfl,rfl,bu (x:=dir) (K2.mv 2) rfl rfl,?_⟩;refine (oo (k:=cI k n) Wi (by omega) hd (by rw [fL]; decide) (K2.mv 3)).mono ?_;rintro v h5 ⟨rfl,K3⟩;rw [aK];have rst:=AF.iR (A:=(St i).1) dir (cI k n);by_cases hr:((St i).1.remove dir (cI k n)).2=0
     · have hst2:St (i+1)=(((St i).1.remove dir (cI k n)).1,rG n (St i).2.1,true,0):=by
        rw [hst,AF.pH hp hr]
        rfl
       rw [hr,show (((0:Nat):Int)!=0)=false from rfl,aa];refine xw (kt:=2) (et:=81) (by kernel_rfl) (by kernel_rfl) (K3.mv 1) fun h6 K4=>?_;refine cd (K4.mv 5) (by exact Nat.zero_lt_one) rfl fun h7 K5=>?_;rw [hw];refine go _ _ ⟨rfl,by omega,by rw [hst2],by rw [hst2]; exact Wi.remove _ _,by rw [hst2]; simp only; omega,?_⟩;rw [hst2];exact K5.ordT 7 [1,3,4,2,5,0,6]
     · have hst2:St (i+1)=(((St i).1.remove dir (cI k n)).1,(St i).2.1,(St i).2.2.1,((St i).1.remove dir (cI k n)).2):=by
        rw [hst];exact AF.qP hp hr
       rw [bm hr,ab];have htot:fY dir k p (TT.map (·.1)) A TT s=St (i+1):=by
        have e1:TT.map (·.1)=(TT.map (·.1)).take (i+1)++(TT.map (·.1)).drop (i+1):=(take_append_drop ..).symm
        conv=>lhs; rw [e1]
        refine AF.lD _ _ _ _ _ ?_;have:(St (i+1)).2.2.2≠0:=by rw [hst2]; exact hr
        exact this
       rw [htot] at hwf ⊢;refine ⟨by rw [hst2],hwf.1,hwf.2,?_⟩;rw [hst2];exact K3.ordT 7 [1,3,0,4,5,6]
   · have hst2:St (i+1)=St i:=by
      rw [hst,AF.pG hp];show ((St i).1,(St i).2.1,(St i).2.2.1,0)=St i;rw [← he]
     rw [Bool.not_eq_true] at hp;rw [hp,aA,ab,hw];exact go _ _ ⟨rfl,by omega,by rw [hst2]; exact he,by rw [hst2]; exact Wi,by rw [hst2]; omega,by rw [hst2]; exact K⟩
 · rintro s0 h' again ⟨rfl,_,he,Wi,hsi,K⟩;rw [ae (by omega),aa];have hall:St TT.length=fY dir k p (TT.map (·.1)) A TT s:=by
    show fY _ _ _ ((TT.map (·.1)).take TT.length) _ _ _=_;rw [ar (by rw [an]; omega)]
   rw [hall] at he K Wi hsi;refine ⟨by rw [he]; rfl,Wi,hsi,?_⟩;exact K.ordT 7 [0,2,3,4,5,6]
theorem Dq {b1:Nat} {x:Int} (n:Int) (F':List aG) (h':Heap) (H:aD (pt b1 (.cells #[.int .i64 x] 2 (0,0))::F') h'):cK prog (.func (.func 51) #[] #[.pointer (some ⟨b1,0,none⟩)]) [.int .i64 n] h' fun v h''=>v=.bool (decide (n≤x))∧h''=h':=by
 refine dK ?_
 refine Jo (c0:=⟨b1,0,none⟩) ?_
 unfold Ny
 exact Lp H.get ⟨rfl,rfl⟩
theorem Dp {b1:Nat} {x:Int} (n:Int) (F':List aG) (h':Heap) (H:aD (pt b1 (.cells #[.int .i64 x] 2 (0,0))::F') h'):cK prog (.func (.func 52) #[] #[.pointer (some ⟨b1,0,none⟩)]) [.int .i64 n] h' fun v h''=>v=.bool (decide (n<x))∧h''=h':=by
 refine dK ?_
 refine Jn (c0:=⟨b1,0,none⟩) ?_
 unfold Nx
 exact Lp H.get ⟨rfl,rfl⟩
set_option maxHeartbeats 1000000 in
theorem xo {below:Int} (W:A.WF) (hs:A.steps+S.D.length+S.N.length+20<1099511627776) (hd:S.dir.size<4611686018427387904) (hT:S.D.length+S.N.length<1000000000) (H:aD (dg b fsb S::cg fsb A::F) h) :
  aC prog 12 [aJ b,.int .i64 below] h fun v h'=>v=.int .i64 (((S.drop A below).2.2:Nat):Int)∧(S.drop A below).1.WF∧(S.drop A below).1.steps≤A.steps+S.D.length+S.N.length+1∧aD (dg b fsb (S.drop A below).2.1::cg fsb (S.drop A below).1::F) h':=by
 apply Ke.ap
 unfold OL
 refine aQ H fun b0 h1 H1=>?_
 refine zj H1.get ?_
 rw [show (some (⟨b,0,none⟩:Addr)).isNone=false from rfl,aa]
 refine zj H1.get ?_
 refine (xe (v:=below) (H1.mv 1)).mono ?_
 rintro v h2 ⟨rfl,H2⟩
 rw [aK]
 refine aQ H2 fun b1 h3 H3=>?_
 refine cd H3 (by exact Nat.zero_lt_one) rfl fun h4 H4=>?_
 refine Lp H4.get ?_
 unfold eT.drop
 dsimp only
 generalize hat:dI (S.N.map (·.1)) below=at_ at H4 ⊢
 by_cases h0:at_=0
 · subst h0;rw [show ((0:Int)==0)=true from rfl,ab,al rfl];exact ⟨rfl,W,by simp only; omega,H4.ordT 4 [1,3]⟩
 rw [show ((at_:Int)==0)=false from by rw [beq_eq_false_iff_ne]; exact h0,aa,ak h0]
 refine aQ H4 fun b2 h5 H5=>?_
 refine cd H5 (by exact Nat.zero_lt_one) rfl fun h6 H6=>?_
 refine zj (H6.mv 3).get ?_
 obtain ⟨dm,nm,H7⟩:=gC (H6.mv 2)
 rw [aY]
 refine rh (x:=dm) H7 rfl ?_
 refine (w9 (k:=100) (dm:=dm) (nm:=nm) (TT:=S.D) (s:=false) (p:=fun n=>decide (n≤at_)) (by decide) M6 rfl Dq W (by omega) hd (by omega) (H7.ordT 7 [1,0,6,5,3,4,2])).mono ?_
 generalize fY S.dir 100 (fun n=>decide (n≤at_)) (S.D.map (·.1)) A S.D false=r
 rintro v h7 ⟨rfl,W7,hs7,H8⟩
 rw [aK]
 by_cases he:r.2.2.2=0
 · rw [he,show (((0:Nat):Int)!=0)=false from rfl,aa,ak (by simp)];refine zj (H8.mv 3).get ?_;rw [aY];refine rh (x:=nm) (H8.mv 1) rfl ?_;refine (w9 (k:=110) (dm:=dm) (nm:=nm) (TT:=S.N) (s:=r.2.2.1) (p:=fun n=>decide (n<at_)) (by decide) M5 rfl Dp W7 (by omega) hd (by omega) (H8.ordT 7 [6,1,2,3,4,5,0])).mono ?_;generalize fY S.dir 110 (fun n=>decide (n<at_)) (S.N.map (·.1)) r.1 S.N r.2.2.1=q;rintro v h8 ⟨rfl,W8,hs8,H9⟩;rw [aK];by_cases he2:q.2.2.2=0
   · rw [he2,show (((0:Nat):Int)!=0)=false from rfl,aa,ak (by simp)];refine O7 (H9.mv 4).get ?_
     cases hfl:q.2.2.1 with
     | false=>
       rw [aA,ab,ak (by decide)];exact ⟨rfl,W8,by simp only; omega,(db (S:={ S with D:=r.2.1,N:=q.2.1 }) (H9.ordT 7 [1,6,0,2]))⟩
     | true=>
       rw [az,aa,al rfl];refine zj (H9.mv 3).get ?_;rw [aY];refine mu (x:=fsb) (H9.mv 1) rfl ?_;refine zj (H9.mv 3).get ?_;rw [aY];refine bu (x:=S.dir) (H9.mv 1) rfl ?_;refine (om (dir:=S.dir) W8 (by omega) hd (H9.mv 2)).mono ?_;rintro v h9 ⟨rfl,H10⟩;rw [aK];have:=AF.jJ (A:=q.1) S.dir;exact ⟨rfl,W8.syncDir _,by simp only; omega,(db (S:={ S with D:=r.2.1,N:=q.2.1 }) (H10.ordT 7 [2,6,1,0]))⟩
   · rw [bm he2,ab,al he2];exact ⟨rfl,W8,by simp only; omega,(db (S:={ S with D:=r.2.1,N:=q.2.1 }) (H9.ordT 7 [1,6,0,2]))⟩
 · rw [bm he,ab,al he];exact ⟨rfl,W7,by simp only; omega,(db (S:={ S with D:=r.2.1 }) (H8.ordT 7 [1,0,6,2]))⟩
end
end Go.Proofs.YtibdiikcigokjaaGreat
