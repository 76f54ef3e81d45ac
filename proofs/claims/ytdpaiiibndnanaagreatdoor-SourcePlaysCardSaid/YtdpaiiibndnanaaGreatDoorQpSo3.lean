/- The log,opened on any files: CutPrefix,the numbers of names,segments that go. -/
import Derived.Test.YtdpaiiibndnanaaGreatDoorQpSaX
import Derived.Test.YtdpaiiibndnanaaGreatDoorQpDl2
import Derived.Test.YtdpaiiibndnanaaGreatDoorQpTe
namespace Go.Proofs.YtdpaiiibndnanaaGreatDoor
open Go.Builtin (append_)
open Go.Proofs.Tryz (prog)
open List (length_drop take_append_drop map_append nil_append cons_append append_nil eq_nil_of_length_eq_zero)
open Go Go.RowKit
set_option linter.unusedVariables false
set_option linter.unusedSimpArgs false
open AF (aU fq bh bX dE cG Gr)
open Frame (aY)
theorem Ip:prog.underlying 22=some (.slice 2):=by kernel_rfl
theorem CT:d8 prog 22=true:=by kernel_rfl
theorem FE:gj prog 2 8=true:=by kernel_rfl
abbrev yo:ByteArray:=⟨#[115,46]⟩
abbrev mg (l:List Nat):List Value:=l.map fun (n:Nat)=>iv (n:Int)
theorem mf (l:List Nat):(mg l).length=l.length:=aq _
theorem n6 {l:List Nat} {i n:Nat} (h:l[i]? = some n):(mg l)[i]? = some (iv (n:Int)):=by rw [List.getElem?_map,h]; rfl
section
variable {h:Heap} {F:List aF}
theorem xH {s:ByteArray}:aE prog 126 [.string s,.string yo] h fun v h'=>h'=h∧
  (((sb s).take 2=[115,46]∧∃ t,v=.tuple #[.string t,.bool true]∧sb t=(sb s).drop 2)∨((sb s).take 2≠[115,46]∧v=.tuple #[.string s,.bool false])):=by
 apply Cy.ap
 unfold He
 have hsl:=bE s
 have in1:aE prog 175 [.string s,.string yo] h fun v h'=>v=.bool (decide ((sb s).take 2=[115,46]))∧h'=h:=by
  apply vY.ap;unfold EL;have e4:yo.size=2:=rfl;rw [e4];by_cases h4:2≤s.size
  · rw [ah (by omega),ae];refine ⟨by omega,by omega,by omega,?_⟩;refine ⟨congrArg Value.bool ?_,rfl⟩;rw [gg,dR]
    rfl
  · rw [af (by omega),ab];refine ⟨congrArg Value.bool ?_,rfl⟩;rw [af];intro he;have:=congrArg List.length he;rw [au] at this;simp at this;omega
 have in2:aE prog 159 [.string s,.string yo] h fun v h'=>h'=h∧
  (((sb s).take 2=[115,46]∧∃ t,v=.tuple #[.string t,.bool true]∧sb t=(sb s).drop 2)∨((sb s).take 2≠[115,46]∧v=.tuple #[.string s,.bool false])):=by
  apply B5.ap;unfold GJ;refine in1.mono ?_;rintro v h1 ⟨rfl,rfl⟩;rw [bO];by_cases hp:(sb s).take 2=[115,46]
  · rw [ah hp];simp only [aB,ab];have hl:=congrArg List.length hp;rw [au] at hl;simp at hl;have e4:yo.size=2:=rfl;rw [e4];refine ⟨by omega,by omega,by omega,?_⟩;refine ⟨trivial,.inl ⟨hp,_,rfl,?_⟩⟩;rw [Int.toNat_natCast,Int.toNat_natCast,dR,av (by rw [length_drop]; omega)]
  · rw [af hp];simp only [aC,ae];exact ⟨trivial,.inr ⟨hp,trivial⟩⟩
 refine in2.mono ?_
 rintro v h1 ⟨rfl,⟨hp,t,rfl,ht⟩ | ⟨hp,rfl⟩⟩
 · exact ⟨_,_,rfl,rfl,.inl ⟨hp,t,rfl,ht⟩⟩
 · exact ⟨_,_,rfl,rfl,.inr ⟨hp,rfl⟩⟩
theorem vF {a:Option Addr} {c l:Nat} {D:List Nat} {n:Nat} {v:Int} {K:Value→Heap→Prop} (hv:v=(n:Int)) (hl:D.length=l) (hb:l<1000000000) (H:aG (aQ 2 1 a l c (mg D)::F) h)
  (hK:∀ a' c' h',aG (aQ 2 1 a' (D++[n]).length c' (mg (D++[n]))::F) h'→K (.slice a' (D++[n]).length c') h') :
  Al h (.cells #[.int .i64 v] 2) fun b0 h1=>bB prog (append_ #[22,22] 22 #[.slice a l c,.slice (some (Addr.mk b0 0 none)) 1 1]) h1 K:=by
 subst hl hv
 refine aW H fun b0 h1 H1=>?_
 refine gr Ip CT FE (H1.mv 1) (n:=1) (ys:=[iv (n:Int)]) (bJ (ge H1 rfl) rfl) (by intro u hu; simp at hu; subst hu; rfl) (by omega) fun a' c' h2 _ H2=>?_
 have e1:mg D++[iv (n:Int)]=mg (D++[n]):=by unfold mg; rw [map_append]; rfl
 have e2:D.length+1=(D++[n]).length:=by rw [ao]; rfl
 rw [e1,e2] at H2
 rw [e2]
 exact hK a' c' h2 (H2.ordT 2 [0])
theorem iO {ks:List ByteArray} {i:Nat} {s:ByteArray} (hs:ks[i]? = some s):bh (ks.take (i+1))=bh (ks.take i)++(match fq s with | some n=>[n] | none=>[]):=by
 unfold bh
 rw [az,hs,List.filterMap_append]
 congr 1
 show List.filterMap fq [s]=_
 cases h:fq s with
 | none=>simp [h]
 | some n=>simp [h]
theorem Bk {ks:List ByteArray} {na:Option Addr} {nl nc:Nat} (hr:∀ h',aG F h'→cv h' na (ks.map Value.string)) (hl:ks.length=nl) (hm:nl≤4096) (hz:∀ s∈ks,s.size≤4000) (H:aG F h) :
  aE prog 84 [.slice na nl nc] h fun v h'=>∃ a c,v=.slice a (bh ks).length c∧aG (aQ 2 1 a (bh ks).length c (mg (bh ks))::F) h':=by
 apply D9.ap
 unfold IE
 refine ⟨fun st hh=>∃ (i:Nat) (a:Option Addr) (c:Nat),st=(⟨a,(bh (ks.take i)).length,c⟩,(i:Int))∧i≤nl∧aG (aQ 2 1 a (bh (ks.take i)).length c (mg (bh (ks.take i)))::F) hh,
  fun st _=>((nl:Int) - st.2).toNat,⟨0,none,0,rfl,aw _,bR 2 1 H⟩,?_⟩
 rintro st h1 ⟨i,a,c,rfl,hi,H1⟩
 dsimp only
 by_cases hil:i<nl
 rotate_left
 · have:i=nl:=by omega
   subst this;rw [af (by omega),ab];rw [av (by omega)] at H1 ⊢;exact ⟨a,c,rfl,H1⟩
 rw [ah (show ((i:Int)<(nl:Int)) by omega),ae]
 obtain ⟨s,hs⟩:∃ s,ks[i]? = some s:=⟨_,ai (by omega)⟩
 have hlen:(bh (ks.take i)).length≤4096:=Nat.le_trans (AF.iq _) (by rw [au]; omega)
 refine dM (hr h1 H1.drop) hl hs fun b hb=>⟨_,hb,s,rfl,?_⟩
 refine xH.mono ?_
 rintro v h2 ⟨rfl,⟨hp,t,rfl,ht⟩ | ⟨hp,rfl⟩⟩
 · refine ⟨t,true,rfl,?_⟩;rw [ae];have hts:t.size≤1099511627776:=by
    have:=hz s (aj hs);rw [← bE,ht,length_drop,bE];omega
   refine (xG hts H1).mono ?_;rintro v h3 ⟨rfl,H3⟩;rw [ht];have eb:fq s=Hex.dw ((sb s).drop 2):=an hp;refine ⟨_,_,rfl,?_⟩
   cases hu:Hex.dw ((sb s).drop 2) with
   | none=>
     simp only [Option.isSome_none,ab];rw [hu] at eb;have e:=iO hs;rw [eb] at e;simp only [append_nil] at e;exact ⟨⟨i+1,a,c,by rw [e,IntWalk.i64_in _ (by omega)]; rfl,by omega,by rw [e]; exact H3⟩,by rw [IntWalk.i64_in _ (by omega)]; omega⟩
   | some n=>
     simp only [Option.isSome_some,ae];rw [hu] at eb;have e:=iO hs;rw [eb] at e;simp only at e;refine vF (n:=n) rfl rfl (by omega) H3 fun a' c' h4 H4=>?_;rw [aI];exact ⟨⟨i+1,a',c',by rw [e,IntWalk.i64_in _ (by omega)]; rfl,by omega,by rw [e]; exact H4⟩,by rw [IntWalk.i64_in _ (by omega)]; omega⟩
 · refine ⟨s,false,rfl,?_⟩;rw [ab];have eb:fq s=none:=am hp;have e:=iO hs;rw [eb] at e;simp only [append_nil] at e;exact ⟨⟨i+1,a,c,by rw [e,IntWalk.i64_in _ (by omega)]; rfl,by omega,by rw [e]; exact H1⟩,by rw [IntWalk.i64_in _ (by omega)]; omega⟩
end
namespace AF
theorem nG (dir:ByteArray) (n:Nat) (l:List Nat) (A:FS):bX dir (n::l) A=if (A.remove dir (cG n)).2=0 then bX dir l (A.remove dir (cG n)).1 else A.remove dir (cG n):=rfl
theorem je (dir:ByteArray):∀ (a b:List Nat) (A:FS),bX dir (a++b) A=if (bX dir a A).2=0 then bX dir b (bX dir a A).1 else bX dir a A
 | [],b,A=>by rw [nil_append]; unfold bX; rfl
 | n::a,b,A=>by
   rw [cons_append,nG,nG,je dir a b];by_cases hr:(A.remove dir (cG n)).2=0
   · simp only [an hr]
   · simp only [am hr]
theorem nE {dir:ByteArray} {l:List Nat} {A:FS} {i n:Nat} (h0:(bX dir (l.take i) A).2=0) (hn:l[i]? = some n):bX dir (l.take (i+1)) A=(bX dir (l.take i) A).1.remove dir (cG n):=by
 rw [az,hn,je,an h0]
 generalize (bX dir (l.take i) A).1=B
 show (if (B.remove dir (cG n)).2=0 then ((B.remove dir (cG n)).1,0) else B.remove dir (cG n))=_
 split
 · rename_i h;exact Prod.ext rfl h.symm
 · rfl
theorem nF {dir:ByteArray} {l:List Nat} {A:FS} {i:Nat} (h0:(bX dir (l.take i) A).2≠0):bX dir l A=bX dir (l.take i) A:=by
 conv=>lhs; rw [← take_append_drop i l]
 rw [je,am h0]
end AF
section
variable {lb fb:Nat} {L:AF.aU} {A:AF.FS} {F:List aF} {h:Heap} {k:Nat}
theorem un {gone:List Nat} {ga:Option Addr} {gl gc:Nat} (hr:∀ h',aG F h'→cv h' ga (mg gone)) (hl:gone.length=gl) (hm:gl≤4096) (hn:∀ n∈gone,n<9223372036854775808) (W:A.WF) (hs:A.steps+5000<1099511627776) (hd:L.dir.size<4611686018427387904)
  (H:aG (cy lb fb L::bV fb A::F) h) :
  aE prog 124 [aM lb,.slice ga gl gc] h fun v h'=>v=.int .i64 ((dE L.dir gone A).2:Int)∧aG (cy lb fb L::bV fb (dE L.dir gone A).1::F) h':=by
 apply Ab.ap
 unfold C6
 simp only [aK]
 refine ⟨fun st hh=>∃ i:Nat,st=(i:Int)∧i≤gl∧(bX L.dir (gone.take i) A).2=0∧aG (cy lb fb L::bV fb (bX L.dir (gone.take i) A).1::F) hh,
  fun st _=>((gl:Int) - st).toNat,⟨0,rfl,aw _,rfl,H⟩,?_⟩
 rintro st h1 ⟨i,rfl,hi,h0,H1⟩
 obtain ⟨W1,G1⟩:=AF.i6 L.dir (gone.take i) A W
 have hlt:(gone.take i).length≤i:=by rw [au]; omega
 have g1:=G1.1
 obtain ⟨a,c,H2⟩:=gb H1
 by_cases hil:i<gl
 · rw [ah (show ((i:Int)<(gl:Int)) by omega),ae];obtain ⟨n,hgn⟩:∃ n,gone[i]? = some n:=⟨_,ai (by omega)⟩
   refine cN (hr h1 (H2.rest 3)) (by rw [mf]; exact hl) (n6 hgn) fun b hb=>⟨_,hb,(n:Int),rfl,?_⟩
   refine dK H2 rfl ?_;refine bz H2 rfl ?_;refine (iQ (hn n (aj hgn)) H2).mono ?_;rintro v h3 ⟨rfl,H3⟩;rw [aT];refine ⟨rfl,rfl,rfl,dK H3 rfl rfl,rfl,rfl,rfl,bz H3 rfl rfl,?_⟩;refine (mB W1 (by omega) hd (by rw [AF.iA]; decide) (H3.mv 2)).mono ?_;rintro v h4 ⟨rfl,H4⟩;rw [aL];have H5:=cw (H4.ordT 3 [1,2,0]);have e:=AF.nE h0 hgn;rw [← e] at H5 ⊢;by_cases h2:(bX L.dir (gone.take (i+1)) A).2=0
   · rw [h2,show (((0:Nat):Int)!=0)=false from rfl,ab];exact ⟨⟨i+1,by rw [IntWalk.i64_in _ (by omega)]; rfl,by omega,h2,H5⟩,by rw [IntWalk.i64_in _ (by omega)]; show ((gl:Int) - ((i:Int)+1)).toNat<((gl:Int) - (i:Int)).toNat; omega⟩
   · rw [aX h2,ae];have ef:=AF.nF h2;have:dE L.dir gone A=bX L.dir gone A:=by
      unfold dE;rw [ef,an h2]
     rw [this,ef];exact ⟨rfl,H5⟩
 · rw [af (show ¬ ((i:Int)<(gl:Int)) by omega),ab];have hig:i=gl:=by omega
   rw [av (by omega)] at h0 H1 H2 W1 g1;by_cases hg:gone=[]
   · have hgl:gl=0:=by rw [← hl,hg]; rfl
     rw [hgl,show (((0:Nat):Int)==0)=true from rfl,ae];have:dE L.dir gone A=bX L.dir gone A:=by
      unfold dE;rw [am (fun hh=>hh h0),an hg]
     rw [this,h0];exact ⟨rfl,H1⟩
   · have hgl:gl≠0:=fun hh=>hg (eq_nil_of_length_eq_zero (by omega));rw [show (((gl:Nat):Int)==0)=false from by rw [beq_eq_false_iff_ne]; omega,ab];refine dK H2 rfl ?_;refine bz H2 rfl ?_;refine (kB W1 (by omega) hd (H2.mv 2)).mono ?_;rintro v h4 ⟨rfl,H4⟩;rw [aL];have:dE L.dir gone A=(bX L.dir gone A).1.syncDir L.dir:=by
      unfold dE;rw [am (fun hh=>hh h0),am hg]
     rw [this];exact ⟨rfl,cw (H4.ordT 3 [1,2,0])⟩
end
end Go.Proofs.YtdpaiiibndnanaaGreatDoor
