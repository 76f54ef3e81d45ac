/- All's own function; ranges over All; Last; what no log answers. -/
import Derived.Test.YtmemjbiijclbdaaGreatMpMdX
import Derived.Test.YtmemjbiijclbdaaGreatMpTm
import Derived.Tactics
import Derived.Tactics2
import Derived.Defers
import Derived.Recover
import Derived.Laws.Pointers
import Derived.TacticsInMore
import Derived.RegionIn
import Derived.RecoverIn
namespace Go.Proofs.YtmemjbiijclbdaaGreat
open Go.Proofs.Tryz (prog)
open List (getElem?_map map_take map_drop drop_zero)
open Go Go.RowKit Go.MapKept
set_option linter.unusedVariables false
set_option linter.unusedSimpArgs false
open AF (bA dq bm cu fe Jh)
theorem zz {P:Program} {f:FuncId} {first cap:Array Value} {np:Nat} {h:Heap} {B:Nat→(LoopState→Option Code→Obj)→List Value→Heap→(Value→Heap→Prop)→Prop} {A:Option Code→Heap→Prop} {α:Type}
  (s:List α) (Hand:α→List Value→aE) (G:Nat→List aE) (X:Code→aE) (K0:aE) (H:aD (K0::G 0) h) (hnp:∀ x args F h,aD (Hand x args::F) h→args.length=np)
  (iter:∀ (yf:Fn) (yp yc:Array Value) (G':Nat→List aE) (X':aE) (Out:Heap→Prop) (h1:Heap),aD (K0::G' 0) h1→
   (∀ (K:aE) i x args h2,s[i]? = some x→aD (Hand x args::K::G' i) h2→cB P (.func yf yp yc) args h2 fun r h3=>∃ go,r=.bool go∧(go=true→aD (K::G' (i+1)) h3)∧(go=false→aD [K,X'] h3))→
   (∀ (K:aE) h2,aD (K::G' s.length) h2→Out h2)→(∀ (K:aE) h2,aD [K,X'] h2→Out h2)→aC P f (first.toList++[.func yf yp yc]++cap.toList) h1 fun _ h'=>Out h')
  (round:∀ (K:aE) i x args (L:Nat) (rec:LoopState→Option Code→Obj) (h2:Heap) (Q:Value→Heap→Prop),s[i]? = some x→aD (pt L (rec .ready none)::cK h.size::Hand x args::K::G i) h2→
   (∀ h3,aD (pt L (rec .busy none)::cK h.size::K::G (i+1)) h3→h3[L]? = some (rec .busy none)∧Q (.bool true) (h3.setIfInBounds L (rec .ready none)))→
   (∀ j h3,aD (pt L (rec .busy none)::cK h.size::K::[X j]) h3→h3[L]? = some (rec .busy none)∧Q (.bool false) (h3.setIfInBounds L (rec .done (some j))))→B L rec args h2 Q)
  (after:∀ (K:aE) h2,aD (cK h.size::K::G s.length) h2→A none h2) (afterX:∀ (K:aE) j h2,aD (cK h.size::K::[X j]) h2→A (some j) h2) :
  dL P (.func (.func f) first cap) np none h B A:=by
 intro rec hrec hy
 refine jA ?_
 have H3:=(H.push (.deferred (some []))).push (rec .ready none)
 rw [Array.size_push] at H3
 refine (iter _ _ _ (fun i=>pt (h.size+1) (rec .ready none)::cK h.size::G i) (mu fun j:Code=>cr [pt (h.size+1) (rec .done (some j)),cK h.size,X j])
  (fun h2=>∃ st pend,h2[h.size+1]? = some (rec st pend)∧st≠.busy∧A pend (h2.setIfInBounds (h.size+1) (rec .exhausted pend))) _ (H3.mv 2) ?_ ?_ ?_).mono fun _ _ hh=>hh
 · intro K i x args h2 hx H2;refine gh ?_;have HL:=(H2.mv 2).get;have H4:aD (pt (h.size+1) (rec .ready none)::cK h.size::Hand x args::K::G i) h2:=(H2.mv 3).mv 3;refine hy _ _ _ (hnp _ _ _ _ H2) HL (round K i x args _ rec h2 _ hx H4 ?_ ?_)
   · intro h3 H3;refine ⟨H3.get,true,rfl,fun _=>?_,fun e=>by cases e⟩;exact (H3.set (rec .ready none)).mv 2
   · intro j h3 H3;refine ⟨H3.get,false,rfl,(fun e=>by cases e),fun _=>?_⟩;have H5:aD (pt (h.size+1) (rec .done (some j))::cK h.size::X j::[K]) _:=(H3.set (rec .done (some j))).ordT 4 [0,1,3,2];exact (bg.2 ⟨j,aD.shut (m:=[_,_,_]) H5⟩:aD (mu _::[K]) _).mv 1
 · intro K h2 H2;have H5:=H2.mv 1;refine ⟨.ready,none,H5.get,by decide,after K _ ?_⟩;exact ((H5.set (rec .exhausted none)).drop.mv 1)
 · intro K h2 H2;obtain ⟨j,H3⟩:=bg.1 (H2.mv 1);have H4:=H3.open;refine ⟨.done,some j,H4.get,by decide,afterX K j _ ?_⟩;have H5:=(H4.set (rec .exhausted (some j))).drop;exact H5.ordT 3 [0,2,1]
abbrev Jj (cb eb:Nat) (T:fe):aE:=cr [pt cb (.cells #[.map (some eb)] 78 (0,0)),bP Bs eb T]
abbrev tx (x:Int×List Nat) (args:List Value):aE:=mu fun q:Option Addr×Nat=>cr [iJ (args=[.int .i64 x.1,.slice q.1 x.2.length q.2]),aL 5 1 q.1 x.2.length q.2 (x.2.map nv)]
theorem rC {x:Int×List Nat} {args:List Value} {F:List aE} {h:Heap} (H:aD (tx x args::F) h):∃ a c,args=[.int .i64 x.1,.slice a x.2.length c]∧aD (aL 5 1 a x.2.length c (x.2.map nv)::F) h:=by
 obtain ⟨⟨a,c⟩,H2⟩:=bg.1 H
 obtain ⟨e,H3⟩:=bh.1 H2.open
 exact ⟨a,c,e,H3⟩
theorem Ag (x:Int×List Nat) (args:List Value) (F:List aE) (h:Heap) (H:aD (tx x args::F) h):args.length=2:=by
 obtain ⟨a,c,rfl,_⟩:=rC H
 rfl
theorem xY {x:Int×List Nat} {a:Option Addr} {c:Nat} {F:List aE} {h:Heap} (H:aD (aL 5 1 a x.2.length c (x.2.map nv)::F) h):aD (tx x [.int .i64 x.1,.slice a x.2.length c]::F) h:=
 bg.2 ⟨(a,c),aD.shut (m:=[_,_]) (bh.2 ⟨rfl,H⟩)⟩
set_option maxHeartbeats 1000000 in
theorem CW {cb eb:Nat} {T:fe} (hT:T.length<1099511627776) (hb:∀ p∈T,p.2.length≤140737488355328) (yf:Fn) (yp yc:Array Value) (G':Nat→List aE) (X':aE) (Out:Heap→Prop) (h1:Heap) (H:aD (Jj cb eb T::G' 0) h1)
  (round:∀ (K:aE) i x args h2,T[i]? = some x→aD (tx x args::K::G' i) h2→cB prog (.func yf yp yc) args h2 fun r h3=>∃ go,r=.bool go∧(go=true→aD (K::G' (i+1)) h3)∧(go=false→aD [K,X'] h3))
  (fin:∀ (K:aE) h2,aD (K::G' T.length) h2→Out h2) (finX:∀ (K:aE) h2,aD [K,X'] h2→Out h2) :
  aC prog 46 [.func yf yp yc,.pointer (some ⟨cb,0,none⟩)] h1 fun _ h'=>Out h':=by
 apply Io.ap
 unfold MT
 refine aQ H fun b0 h2 H2=>?_
 have H3:=(H2.mv 1).open
 refine NG H3.get ?_
 refine (oC (H3.mv 1) hT).mono ?_
 rintro v h3 ⟨kb,tb,a,c,s,rfl,hsk,hnd,H4⟩
 have hsl:s.length=T.length:=by
  have:=congrArg List.length hsk;simpa using this
 refine ⟨_,rfl,?_⟩
 refine iy s (fun x=>[.int .i64 x.1,x.2]) (fun i=>cW Bs kb tb eb a c 78 s i T) (fun i=>pt cb (.cells #[.map (some eb)] 78 (0,0))::pt b0 (.cells #[.func yf yp yc] 102 (0,0))::G' i)
  (fun j=>[iJ (j=.ret),X']) H4 (fun _=>rfl) (fun yv G Out h1 hh r f=>mE (by omega) (fun _=>T) ou yv G Out h1 hh r f) ?_ ?_ ?_
 · intro i x L rec h4 Q hx H5 hgo hstop;obtain ⟨n,v⟩:=x;have hi:=(aj.1 hx).1;have HL:=H5.get;have hn:(T.map (·.1))[i]? = some n:=by rw [← hsk,getElem?_map,hx]; rfl
   obtain ⟨x,hg,hv⟩:=g9 (H5.mv 2) hx;have hTi:T[i]? = some (n,x):=by
    have hu:=nH (i2 (H5.mv 2));rw [getElem?_map] at hn
    cases hTi:T[i]? with
    | none=>rw [hTi] at hn; cases hn
    | some p=>
      rw [hTi] at hn;simp only [Option.map_some,Option.some.injEq] at hn;have h2:cg T p.1=some p.2:=cZ hu (ai hTi);rw [hn,hg] at h2;cases h2;rw [← hn]
   have H6:=qF (H5.mv 2) hx hg;obtain ⟨va,vc,rfl,_⟩:=hv;refine ⟨n,va,x.length,vc,rfl,HL,?_⟩;have H7:=(H6.mv 2).set (rec .busy none);refine ⟨.func yf yp yc,by rw [bj (H7.mv 5).get]; rfl,.func yf yp yc,rfl,?_⟩;have hRd:=eV (H7.mv 1);obtain ⟨va2,vc2,e2,hR⟩:=hRd;cases e2;refine (rL (xs:=x) (H7.mv 1).drop hR rfl (hb _ (ai hTi))).mono ?_;rintro v h5 ⟨a5,c5,rfl,H8⟩;rw [aF];refine ⟨⟨.func yf yp yc,by rw [bj (H8.mv 5).get]; rfl,.func yf yp yc,rfl,rfl⟩,rfl,?_⟩;have H9:aD (cr [pt L (rec .busy none),cW Bs kb tb eb a c 78 s i T,cK h3.size,pt cb (.cells #[.map (some eb)] 78 (0,0)),pt b0 (.cells #[.func yf yp yc] 102 (0,0))]::tx (n,x) [.int .i64 n,.slice a5 x.length c5]::G' i) h5:=
    aD.shut (m:=[_,_,_,_,_]) ((xY (x:=(n,x)) H8).bk 5)
   refine (round _ i (n,x) _ h5 hTi (H9.mv 1)).mono ?_;rintro r h6 ⟨go,rfl,h1,h2⟩;rw [cd]
   cases go with
   | true=>
     rw [az,aa];have H10:=(h1 rfl).open;exact hgo h6 ((kK (H10.mv 1)).ordT 5 [1,2,0,3,4])
   | false=>
     rw [aA,ab];have H10:aD [_,_,_,_,_,X'] h6:=(h2 rfl).open;refine hstop .ret h6 ?_;exact (bh.2 ⟨rfl,H10.ord [0,2,5]⟩:aD (iJ _::_) h6).bk 2
 · intro h4 H5;refine ⟨.inl rfl,fun _=>?_,fun e=>by cases e⟩;rw [hsl] at H5;refine ⟨H5.get,?_⟩;have H6:=(H5.set (.deferred none)).rest 4;exact fin (iJ True) _ (bh.2 ⟨trivial,H6⟩)
 · intro j h4 H5;obtain ⟨rfl,H6⟩:=bh.1 (H5.mv 1);refine ⟨.inr rfl,(fun e=>by cases e),fun _=>⟨H6.get,?_⟩⟩;exact finX _ _ (H6.set (.deferred none))
section
variable {F:List aE} {h:Heap} {b fsb:Nat} {M:bA} {A:AF.FS}
theorem Dq (H:aD (cP b fsb M::F) h):aC prog 16 [aI b] h fun v h'=>∃ cb eb,v=.func (.func 46) #[] #[.pointer (some ⟨cb,0,none⟩)]∧aD (Jj cb eb M.entries::cP b fsb M::F) h':=by
 apply IT.ap
 unfold No
 refine aQ H fun b0 h1 H1=>?_
 refine aQ H1 fun b1 h2 H2=>?_
 refine bQ H2 (by exact Nat.zero_lt_one) rfl fun h3 H3=>?_
 rw [show (some (⟨b,0,none⟩:Addr)).isNone=false from rfl,aA,ab]
 refine (l9 (H3.mv 2)).mono ?_
 rintro v h4 ⟨eb,rfl,H4⟩
 rw [bY]
 refine bQ (H4.mv 2) (by exact Nat.zero_lt_one) rfl fun h5 H5=>?_
 refine ⟨b1,eb,rfl,aD.shut (m:=[_,_]) ?_⟩
 have H6:=H5.ordT 4 [0,1,2]
 exact H6
end
open AF (bA dq bm cu fe)
open Hex (cU)
theorem Ep (a b:Option Addr) (w:World):CallsDIn Fence.wide 0 prog 182 #[.pointer a,.pointer b] .returning w fun e u' w'=>e=.returned (.tuple #[])∧u'=.returning∧w'=w:=by
 refine callsDIn_of_wpSIn Tryz.func182 rfl trivial fun c₀ cs hu=>?_
 apply wpSIn_seq
 apply wpSIn_region
 simp [wpOpsSIn,go_sem,recoverD,hu,Exit.thenS]
 apply wpSIn_seq
 apply wpSIn_region
 simp [wpOpsSIn,go_sem,Exit.thenS]
 refine wpSIn_cond (t:=false) (by simp [Act.eval,Array.replicate]) ?_
 simp only [Bool.false_eq_true,if_false]
 refine wpSIn_of_wpIn rfl (wpIn_skip ?_)
 cases c₀
 simp_all [bodyPostS,results]
theorem Ao {a b:Option Addr} {h:Heap} {K:Heap→Prop} (H:K h):j3 prog 182 [.pointer a,.pointer b] h K:=by
 refine ⟨by kernel_rfl,fun w hw=>?_⟩
 refine (Ep a b w).mono ?_
 rintro e u' w' ⟨rfl,rfl,rfl⟩
 exact ⟨⟨_,rfl⟩,rfl,by rw [hw]; exact H,⟨rfl,rfl,rfl⟩⟩
theorem LX {a b:Nat} (ha:a<18446744073709551616) (hb:b<18446744073709551616):bq .or .u64 (a:Int) (b:Int)=((a ||| b:Nat):Int):=by
 unfold bq
 simp only []
 have e:(BitVec.ofInt (IntKind.u64).bits (a:Int) ||| BitVec.ofInt (IntKind.u64).bits (b:Int)).toNat=a ||| b:=by
  rw [BitVec.ofInt_natCast,BitVec.ofInt_natCast,BitVec.toNat_or,BitVec.toNat_ofNat,BitVec.toNat_ofNat,Nat.mod_eq_of_lt (show a<2^IntKind.u64.bits from ha),Nat.mod_eq_of_lt (show b<2^IntKind.u64.bits from hb)]
 rw [e]
 have:a ||| b<2^64:=Nat.or_lt_two_pow ha hb
 rw [IntWalk.u64_in _ (by omega)]
theorem GQ {i a d:Nat} (ha:a<2^i):a ||| d*2^i=a+d*2^i:=by
 rw [Nat.or_comm,Nat.mul_comm,← Nat.two_pow_add_eq_or_of_lt ha,Nat.add_comm]
theorem aZ.by {S:Type} {F:(S→Heap→Prop)→S→Heap→Prop} {s0:S} {h0:Heap} (I:S→Heap→Prop) (μ:S→Nat) (start:I s0 h0)
  (step:∀ s h again,I s h→(∀ s' h',I s' h'→μ s'<μ s→again s' h')→F again s h):aZ F s0 h0:=
 ⟨I,fun s _=>μ s,start,fun s h hi=>step s h _ hi fun s' h' h1 h2=>⟨h1,h2⟩⟩
set_option maxRecDepth 20000 in
theorem Hq {c:Nat} (hc:c<256):bq .and .u8 (c:Int) 127=((c%128:Nat):Int):=by
 have h:∀ x:Fin 256,bq .and .u8 (x.val:Int) 127=((x.val%128:Nat):Int):=by decide
 exact h ⟨c,hc⟩
theorem Gh {d i:Nat} (hi:i≤64) (h:d*2^i<18446744073709551616):fH .u64 (d:Int) (i:Int)=((d*2^i:Nat):Int):=by
 unfold fH
 rw [Int.toNat_natCast,show min i IntKind.u64.bits=i from Nat.min_eq_left hi]
 have e:(d:Int)*2^i=((d*2^i:Nat):Int):=by
  rw [Int.natCast_mul,Int.natCast_pow]
  rfl
 rw [e]
 exact IntWalk.u64_in _ (by omega)
section
variable {F:List aE} {h:Heap}
def dZ (rb:Nat) (xs:List Nat):aE:=mu fun q:Option Addr×Nat=>cr [iJ (xs.length≤q.2∧xs.length≤1099511627776),pt rb (.cells #[.slice q.1 xs.length q.2] 249 (0,0)),kh (fun h=>dF h q.1 (xs.map nv))]
theorem gR {rb:Nat} {xs:List Nat} (H:aD (dZ rb xs::F) h):∃ a c,xs.length≤c∧xs.length≤1099511627776∧aD (pt rb (.cells #[.slice a xs.length c] 249 (0,0))::kh (fun h=>dF h a (xs.map nv))::F) h:=by
 obtain ⟨⟨a,c⟩,H2⟩:=bg.1 H
 obtain ⟨⟨h1,h2⟩,H3⟩:=bh.1 H2.open
 exact ⟨a,c,h1,h2,H3⟩
theorem kN {rb c:Nat} {a:Option Addr} {xs:List Nat} (h1:xs.length≤c) (h2:xs.length≤1099511627776) (H:aD (pt rb (.cells #[.slice a xs.length c] 249 (0,0))::kh (fun h=>dF h a (xs.map nv))::F) h):aD (dZ rb xs::F) h:=
 bg.2 ⟨(a,c),aD.shut (m:=[_,_,_]) (bh.2 ⟨⟨h1,h2⟩,H⟩)⟩
theorem Ce (p t:List Nat):(p++t).drop p.length=t:=by simp
theorem An {rb:Nat} {w rest:List Nat} (H:aD (dZ rb (w++rest)::F) h) :
  aC prog 184 [aI rb,.int .u64 (w.length:Int)] h fun v h'=>∃ a c,v=.slice a w.length c∧aD (kh (fun h=>dF h a (w.map nv))::dZ rb rest::F) h':=by
 apply Fg.ap
 unfold KQ
 obtain ⟨a,c,hc,hl,H2⟩:=gR H
 have hlen:(w++rest).length=w.length+rest.length:=am
 rw [aP]
 refine bH H2 rfl ?_
 rw [IntWalk.u64_in _ (by omega),ae (show ¬ ((w.length:Int)>((w++rest).length:Int)) by omega),aa,aP]
 refine bH H2 rfl ?_
 refine ir (lo:=0) (hi:=w.length) (mx:=c) (au _) (by omega) (av _) ?_
 rw [aP]
 refine bH H2 rfl ?_
 refine ir (lo:=w.length) (hi:=(w++rest).length) (mx:=c) (by omega) hc (av _) ?_
 rw [aP,aV]
 have e:(w++rest).length - w.length=rest.length:=by omega
 rw [e,Nat.sub_zero]
 refine bQ H2 (by exact Nat.zero_lt_one) rfl fun h2 H3=>?_
 refine ⟨_,_,rfl,?_⟩
 have H4:=nO (H3.mv 1)
 have H5:=dX (S:=fun h=>dF h (jB a 0 c 1) (w.map nv)) (fun h hh=>by
  have:=dF.sub hh 0 w.length c (by omega);rw [drop_zero,← map_take,List.take_left'] at this
  · exact this
  · rfl) H4
 have H8:=dX (S:=fun h=>dF h (jB a w.length c 1) (rest.map nv)) (fun h hh=>by
  have:=dF.sub hh w.length rest.length c (by omega);rw [← map_drop,Ce,ar (by rw [an]; exact av _)] at this;exact this) (H5.mv 1)
 exact (kN (a:=jB a w.length c 1) (c:=c - w.length) (by omega) (by omega) (H8.ordT 3 [2,0,1])).mv 1
end
end Go.Proofs.YtmemjbiijclbdaaGreat
