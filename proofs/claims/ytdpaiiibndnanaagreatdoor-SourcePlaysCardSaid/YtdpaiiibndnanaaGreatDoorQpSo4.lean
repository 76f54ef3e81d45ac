/- The log,opened on any files: segment by segment; Open. -/
import Derived.Test.YtdpaiiibndnanaaGreatDoorQpSo3
import Derived.Test.YtdpaiiibndnanaaGreatDoorQpSgA
namespace Go.Proofs.YtdpaiiibndnanaaGreatDoor
open Go.Proofs.Tryz (prog)
open List (mem_of_mem_take mem_of_mem_drop length_drop map_take map_drop drop_zero drop_of_length_le drop_eq_getElem_cons mem_cons_self drop_sublist length_singleton getLast?_append getLast?_singleton)
open Go Go.RowKit
set_option linter.unusedVariables false
set_option linter.unusedSimpArgs false
open AF (aU fq bh bX dE cG Gr)
open Frame (aY)
namespace AF
section
variable {A:FS} {L:aU} {n e:Nat} {all bs:List Nat}
theorem aU.load_off (h:n≠L.fin):aU.load (n::all) A L=((dE L.dir (n::all) A).1,L,(dE L.dir (n::all) A).2):=by
 conv=>lhs; unfold aU.load
 rw [an h]
theorem aU.load_err (h:n=L.fin) (he:A.read L.dir (cG n)=.error e):aU.load (n::all) A L=(A,L,e):=by
 conv=>lhs; unfold aU.load
 rw [am (fun hh=>hh h),he]
theorem aU.load_raw (h:n=L.fin) (he:A.read L.dir (cG n)=.ok bs) (hr:aY (bp bs)<bs.length) (h2:(A.raw L.dir (cG n) (bs.take (aY (bp bs)))).2≠0) :
  aU.load (n::all) A L=((A.raw L.dir (cG n) (bs.take (aY (bp bs)))).1,L.got n bs,(A.raw L.dir (cG n) (bs.take (aY (bp bs)))).2):=by
 conv=>lhs; unfold aU.load
 rw [am (fun hh=>hh h),he]
 dsimp only
 rw [an hr,an h2]
theorem aU.load_cut (h:n=L.fin) (he:A.read L.dir (cG n)=.ok bs) (hr:aY (bp bs)<bs.length) (h2:(A.raw L.dir (cG n) (bs.take (aY (bp bs)))).2=0) :
  aU.load (n::all) A L=((dE L.dir all (A.raw L.dir (cG n) (bs.take (aY (bp bs)))).1).1,L.got n bs,(dE L.dir all (A.raw L.dir (cG n) (bs.take (aY (bp bs)))).1).2):=by
 conv=>lhs; unfold aU.load
 rw [am (fun hh=>hh h),he]
 dsimp only
 rw [an hr,am (fun hh=>hh h2)]
theorem aU.load_on (h:n=L.fin) (he:A.read L.dir (cG n)=.ok bs) (hr:¬ aY (bp bs)<bs.length):aU.load (n::all) A L=aU.load all A (L.got n bs):=by
 conv=>lhs; unfold aU.load
 rw [am (fun hh=>hh h),he]
 dsimp only
 rw [am hr]
end
end AF
theorem yI (l:List Nat) (i:Nat):(mg l).drop i=mg (l.drop i):=(map_drop ..).symm
theorem n4 {h:Heap} {a:Option Addr} {l:List Nat} {i al ac:Nat} (H:cv h a (mg l)) (hl:l.length=al) (hc:al≤ac) (hi:i≤al):cv h (fG a i ac 1) (mg (l.drop i)):=by
 have:=cv.subN H i (al - i) ac 1 (by omega)
 rw [Nat.mul_one,yI,av (by rw [mf,length_drop]; omega)] at this
 exact this
section
variable {lb fb:Nat} {L:AF.aU} {A:AF.FS} {F:List aF} {h:Heap} {k:Nat}
set_option maxHeartbeats 1000000 in
theorem Bm {all:List Nat} {aa:Option Addr} {al ac:Nat} (hr:∀ h',aG F h'→cv h' aa (mg all)) (hl:all.length=al) (hc:al≤ac) (hm:al≤4096) (hn:∀ n∈all,n<9223372036854775808) (hup:all.Pairwise (· < ·)) (W:A.WF) (hs:A.steps+6000<1099511627776)
  (I:L.Fit k) (hk:k+4096≤99999) (hnew:∀ n∈all,∀ p,L.parts.getLast? = some p→p.base<n) (H:aG (cy lb fb L::bV fb A::F) h) :
  aE prog 83 [aM lb,.slice aa al ac] h fun v h'=>v=.int .i64 ((aU.load all A L).2.2:Int)∧aG (cy lb fb (aU.load all A L).2.1::bV fb (aU.load all A L).1::F) h':=by
 apply vU.ap
 unfold Ea
 simp only [aK]
 refine ⟨fun st hh=>∃ (i:Nat) (L2:aU),st=(i:Int)∧i≤al∧aU.load all A L=aU.load (all.drop i) A L2∧L2.Fit (k+i)∧(∀ n∈all.drop i,∀ p,L2.parts.getLast? = some p→p.base<n)∧aG (cy lb fb L2::bV fb A::F) hh,
  fun st _=>((al:Int) - st).toNat,⟨0,L,rfl,aw _,rfl,I,hnew,H⟩,?_⟩
 rintro st h1 ⟨i,L2,rfl,hi,hload,I2,hnew2,H1⟩
 obtain ⟨a,c,H2⟩:=gb H1
 by_cases hil:i<al
 rotate_left
 · have:i=al:=by omega
   subst this;rw [af (by omega),ab];rw [drop_of_length_le (by omega)] at hload;rw [hload];exact ⟨rfl,H1⟩
 rw [ah (show ((i:Int)<(al:Int)) by omega),ae]
 obtain ⟨n,hgn⟩:∃ n,all[i]? = some n:=⟨_,ai (by omega)⟩
 have hn1:=hn n (aj hgn)
 have hdrop:all.drop i=n::all.drop (i+1):=by
  rw [drop_eq_getElem_cons (by omega)];congr 1;exact (ak.1 hgn).2
 have S:=I2.small
 have hfin:=S.fin
 have hmany:=S.many
 refine cN (hr h1 (H2.rest 3)) (by rw [mf]; exact hl) (n6 hgn) fun b hb=>⟨_,hb,(n:Int),rfl,?_⟩
 refine bM (x:=(L2.fin:Int)) H2 rfl ?_
 by_cases hnf:n=L2.fin
 rotate_left
 · rw [show (((n:Nat):Int)!=(L2.fin:Int))=true from by rw [bne_iff_ne]; omega,ae];refine dI hi hc (ax ac) ?_;have hr2:∀ h',aG F h'→cv h' (fG aa i ac 1) (mg (all.drop i)):=fun h' H'=>n4 (hr h' H') hl hc hi;refine (un hr2 (by rw [length_drop,hl]) (by omega) (fun m hm2=>hn m (mem_of_mem_drop hm2)) W (by omega) S.dir H1).mono ?_;rintro v h3 ⟨rfl,H3⟩;rw [aL,hload,hdrop,AF.aU.load_off hnf];rw [hdrop] at H3;exact ⟨rfl,H3⟩
 rw [show (((n:Nat):Int)!=(L2.fin:Int))=false from by rw [hnf]; simp,ab]
 refine dK H2 rfl ?_
 refine bz H2 rfl ?_
 refine (iQ hn1 H2).mono ?_
 rintro v h3 ⟨rfl,H3⟩
 rw [aT]
 refine ⟨rfl,rfl,rfl,dK H3 rfl rfl,rfl,rfl,rfl,bz H3 rfl rfl,?_⟩
 refine (pL W S.dir (by rw [AF.iA]; decide) (H3.mv 2)).mono ?_
 rintro v h4 (⟨bs,xa,xc,hrd,h8,hlen,rfl,H4⟩ | ⟨e,hrd,e0,rfl,H4⟩)
 rotate_left
 · refine ⟨none,0,0,_,rfl,?_⟩;rw [aX e0,ae,hload,hdrop,AF.aU.load_err hnf hrd];exact ⟨rfl,cw (H4.ordT 3 [1,2,0])⟩
 refine ⟨xa,bs.length,xc,0,rfl,?_⟩
 rw [show ((0:Int)!=0)=false from rfl,ab]
 have hxc:=(dA H4).2.1
 have hgl:=gX h8
 have hgr:=AF.mU h8
 refine (tV H4 (fun h' H'=>aH H') h8 rfl (by omega)).mono ?_
 rintro v h5 ⟨ga,gc,rfl,H5⟩
 have H6:=H5.drop
 refine ⟨ga,_,gc,_,rfl,?_⟩
 refine bH (a:=a) (l:=L2.parts.length) (m:=c) (H6.mv 2) rfl ?_
 refine aW H6 fun b0 h7 H7=>?_
 have hrp:cv h7 (some ⟨b0,0,none⟩) (bA [⟨n,(bp bs).length,aY (bp bs)⟩]):=ge H7 rfl
 refine gP Fb yi yS (H7.mv 4) (n:=1) (bJ hrp rfl) (by intro u hu; simp [bA] at hu; rcases hu with rfl | rfl | rfl <;> rfl) (by omega) fun a' c' h8' _ H8=>?_
 rw [aI]
 have H9:=H8.ordT 5 [4,0,3,2]
 refine ct (c':=eJ fb { L2 with parts:=L2.parts++[⟨n,(bp bs).length,aY (bp bs)⟩] } a' c') H9 (by show 3<6; decide) (by simp only [eJ,ao,length_singleton]; rfl) fun h9 H10=>?_
 refine bM (x:=(L2.fin:Int)) H10 rfl ?_
 rw [IntWalk.i64_in _ (by omega)]
 refine ct (c':=eJ fb (L2.got n bs) a' c') H10 (by show 4<6; decide) (by simp only [eJ,AF.aU.got]; rfl) fun h10 H11=>?_
 have hnew3:∀ p,L2.parts.getLast? = some p→p.base<L2.fin:=fun p hp=>by
  rw [← hnf];exact hnew2 n (by rw [hdrop]; exact mem_cons_self ..) p hp
 have I3:(L2.got n bs).Fit (k+i+1):=by
  rw [hnf];exact I2.got (by omega) h8 hlen hnew3
 have epl:(L2.got n bs).parts.length=L2.parts.length+1:=by unfold AF.aU.got; rw [ao]; rfl
 have H12:aG (pt lb (.cells (eJ fb (L2.got n bs) a' c') 152 (0,0))::aQ 158 3 a' (L2.got n bs).parts.length c' (bA (L2.got n bs).parts)::bV fb A::aQ 5 1 xa bs.length xc (bs.map nv)::F) h10:=by
  rw [← dt] at H11;rw [epl];exact H11
 have H13:=cw H12
 by_cases hcut:aY (bp bs)<bs.length
 rotate_left
 · rw [af (by omega),ab];refine ⟨⟨i+1,L2.got n bs,by rw [IntWalk.i64_in _ (by omega)]; rfl,by omega,by rw [hload,hdrop,AF.aU.load_on hnf hrd hcut],I3,?_,H13.ordT 3 [0,1]⟩,by rw [IntWalk.i64_in _ (by omega)]; show ((al:Int) - ((i:Int)+1)).toNat<((al:Int) - (i:Int)).toNat; omega⟩;intro m hm2 p hp;unfold AF.aU.got at hp;dsimp only at hp;rw [getLast?_append,getLast?_singleton] at hp;cases hp;dsimp only;have hup2:(all.drop i).Pairwise (· < ·):=hup.sublist (drop_sublist _ _);rw [hdrop] at hup2;exact (List.pairwise_cons.1 hup2).1 m hm2
 rw [ah (by omega),ae]
 refine dK H12 rfl ?_
 refine bz H12 rfl ?_
 refine dI (lo:=0) (aw _) (by omega) (ax xc) ?_
 refine (iQ hn1 H12).mono ?_
 rintro v h11 ⟨rfl,H14⟩
 rw [aT]
 refine ⟨rfl,rfl,rfl,dK H14 rfl rfl,rfl,rfl,rfl,bz H14 rfl rfl,rfl,rfl,dI (lo:=0) (aw _) (by omega) (ax xc) rfl,?_⟩
 have h8t:B8 (bs.take (aY (bp bs))):=fun x hx=>h8 x (mem_of_mem_take hx)
 have hrt:∀ h',aG (cy lb fb (L2.got n bs)::aQ 5 1 xa bs.length xc (bs.map nv)::F) h'→cv h' (fG xa 0 xc 1) ((bs.take (aY (bp bs))).map nv):=fun h' H'=>by
  have:=cv.subN (aH (H'.mv 1)) 0 (aY (bp bs)) xc 1 (by omega);rw [Nat.zero_mul,drop_zero,← map_take] at this;exact this
 have H15:aG (bV fb A::cy lb fb (L2.got n bs)::aQ 5 1 xa bs.length xc (bs.map nv)::F) h11:=(cw H14).ordT 3 [1,0,2]
 refine (xI (dir:=(L2.got n bs).dir) (name:=cG n) (bs:=bs.take (aY (bp bs))) W (by omega) S.dir (by rw [AF.iA]; decide) hrt h8t (by rw [au]; omega) (by omega) H15).mono ?_
 rintro v h12 ⟨rfl,W2,s2,H16⟩
 rw [aL]
 have ed:(L2.got n bs).dir=L2.dir:=rfl
 rw [ed] at W2 s2 H16 ⊢
 by_cases h2:(A.raw L2.dir (cG n) (bs.take (aY (bp bs)))).2=0
 rotate_left
 · rw [aX h2,ae,hload,hdrop,AF.aU.load_raw hnf hrd hcut h2];exact ⟨rfl,H16.ordT 3 [1,0]⟩
 rw [h2,show (((0:Nat):Int)!=0)=false from rfl,ab]
 rw [IntWalk.i64_in _ (by omega),show ((i:Int)+1)=((i+1:Nat):Int) by omega]
 refine dI (by omega) hc (ax ac) ?_
 have hr2:∀ h',aG F h'→cv h' (fG aa (i+1) ac 1) (mg (all.drop (i+1))):=fun h' H'=>n4 (hr h' H') hl hc (by omega)
 refine (un (L:=L2.got n bs) hr2 (by rw [length_drop,hl]) (by omega) (fun m hm2=>hn m (mem_of_mem_drop hm2)) W2 (by omega) S.dir (H16.ordT 3 [1,0])).mono ?_
 rintro v h13 ⟨rfl,H17⟩
 rw [aL,hload,hdrop,AF.aU.load_cut hnf hrd hcut h2]
 exact ⟨rfl,H17⟩
def DY (fb:Nat) (r:AF.FS×Except Nat aU) (F:List aF) (v:Value) (h':Heap):Prop:=
 (∃ lb L,r.2=.ok L∧v=.tuple #[aM lb,.int .i64 0]∧aG (cy lb fb L::bV fb r.1::F) h')∨
 (∃ e:Nat,r.2=.error e∧e≠0∧v=.tuple #[.pointer none,.int .i64 (e:Int)]∧aG (bV fb r.1::F) h')
theorem BL {dir:ByteArray} {size:Int} (W:A.WF) (hs:A.steps+30000<1099511627776) (hd:dir.size<4611686018427387904) (H:aG (bV fb A::F) h) :
  aE prog 35 [aM fb,.string dir,.int .i64 size] h fun v h'=>DY fb (A.openL dir size) F v h':=by
 apply vW.ap
 unfold Ez
 by_cases h1:size<1
 · rw [ah h1,ae];have e:A.openL dir size=(A,.error 2):=by unfold AF.FS.openL; rw [an (.inl h1)]
   rw [e];exact .inr ⟨2,rfl,by decide,rfl,H⟩
 rw [af h1,ab]
 by_cases h2:16777216<size
 · rw [ah (show size>16777216 from h2),ae];have e:A.openL dir size=(A,.error 2):=by unfold AF.FS.openL; rw [an (.inr h2)]
   rw [e];exact .inr ⟨2,rfl,by decide,rfl,H⟩
 rw [af (show ¬ size>16777216 from h2),ab]
 have eo:A.openL dir size=match (A.prep dir).2 with
  | .error e=>((A.prep dir).1,.error e)
  | .ok ks=>AF.qB (A.prep dir).1 ⟨dir,size.toNat,[],0,0⟩ ks:=by
  unfold AF.FS.openL;rw [am (by omega)];cases (A.prep dir).2 <;> rfl
 refine (tX W (by omega) hd H).mono ?_
 rintro v h3 ⟨W1,s1,⟨ks,a,c,hk,hright,hfew,rfl,H3⟩ | ⟨e,hk,e0,rfl,H3⟩⟩
 rotate_left
 · refine ⟨none,0,0,_,rfl,?_⟩;rw [aX e0,ae,eo,hk];exact .inr ⟨e,rfl,e0,rfl,H3⟩
 refine ⟨a,_,c,0,rfl,?_⟩
 rw [show ((0:Int)!=0)=false from rfl,ab]
 rw [hk] at eo
 dsimp only at eo
 refine aW H3 fun lb h4 H4=>?_
 have H5:=H4.mv 1
 refine (Bk (F:=aQ 9 1 a ks.length c (ks.map Value.string)::pt lb (.cells #[aM fb,.string dir,.int .i64 size,.slice none 0 0,.int .i64 0,.int .i64 0] 152 (0,0))::bV fb (A.prep dir).1::F) (fun h' H'=>aH H') rfl hfew (fun s hs2=>Nat.le_trans (AF.nj (hright s hs2)) (by decide)) H5).mono ?_
 rintro v h5 ⟨ba,bc,rfl,H6⟩
 rw [aI]
 have hup:=AF.kw (AF.rU W1 hk)
 have hbl:=AF.iq ks
 have hcap:=(dA H6).2.1
 have H7:aG (cy lb fb ⟨dir,size.toNat,[],0,0⟩::bV fb (A.prep dir).1::aQ 2 1 ba (bh ks).length bc (mg (bh ks))::F) h5:=by
  refine cw (a:=none) (c:=0) ?_;have:=(bR 158 3 H6).ordT 5 [3,0,4,1];have e:((size.toNat:Nat):Int)=size:=by omega
  unfold eJ;rw [e];exact this
 refine (Bm (k:=0) (F:=aQ 2 1 ba (bh ks).length bc (mg (bh ks))::F) (fun h' H'=>aH H') rfl hcap (by omega) (fun n hn=>(hup.2 n hn).1) hup.1 W1 (by omega) (AF.aU.fit0 hd (by omega) (by omega)) (by omega) (fun n hn p hp=>by cases hp) H7).mono ?_
 rintro v h6 ⟨rfl,H8⟩
 obtain ⟨W2,G2,I2,e2⟩:=AF.n8 (bh ks) (A.prep dir).1 ⟨dir,size.toNat,[],0,0⟩ 0 W1 (AF.aU.fit0 hd (by omega) (by omega)) (by omega) hup.1 (fun n hn p hp=>by cases hp)
 have g2:=G2.1
 unfold AF.qB at eo
 generalize aU.load (bh ks) (A.prep dir).1 ⟨dir,size.toNat,[],0,0⟩=r at W2 g2 I2 H8 eo ⊢
 rw [aL]
 by_cases h0:r.2.2=0
 rotate_left
 · rw [aX h0,ae];rw [an h0] at eo;rw [eo];exact .inr ⟨_,rfl,h0,rfl,H8.ordT 3 [1]⟩
 rw [h0,show (((0:Nat):Int)!=0)=false from rfl,ab]
 rw [am (fun hh=>hh h0)] at eo
 refine (kC W2 (by omega) I2.small H8).mono ?_
 rintro v h7 ⟨rfl,H9⟩
 rw [aL]
 by_cases h9:(r.2.1.sync r.1).2=0
 rotate_left
 · rw [aX h9,ae];rw [an h9] at eo;rw [eo];exact .inr ⟨_,rfl,h9,rfl,H9.ordT 3 [1]⟩
 rw [h9,show (((0:Nat):Int)!=0)=false from rfl,ab]
 rw [am (fun hh=>hh h9)] at eo
 rw [eo]
 rw [h9,AF.aU.synced,an rfl] at H9
 exact .inl ⟨lb,_,rfl,rfl,H9.ordT 3 [0,1]⟩
end
end Go.Proofs.YtdpaiiibndnanaaGreatDoor
