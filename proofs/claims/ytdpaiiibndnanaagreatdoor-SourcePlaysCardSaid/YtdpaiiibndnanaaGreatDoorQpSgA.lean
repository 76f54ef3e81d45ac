/- The iterator over frames in the program of seat r2; the records at the beginning of bytes. The log as plain data; its last segment,names,Sync. The log: a new segment,a record more. The log: Append,what is told of it,the search. The log: Read. The log: Read,the walk. The log in a file system with power and room: what it keeps (plain). The log in a file system with power and room: records are put,and read. The log in a file system with power and room: what is read. A log in a new directory; the chapter's example; no log. -/
import Derived.Test.YtdpaiiibndnanaaGreatDoorQpPlA
import Derived.Test.YtdpaiiibndnanaaGreatDoorQpTe
namespace Go.Proofs.YtdpaiiibndnanaaGreatDoor
open Go.Builtin (append_)
open Go.IntKind (wrap)
open Go.Proofs.Tryz (prog)
open List (length_drop append_assoc drop_drop take_append_drop map_take map_drop drop_zero cons_append mem_singleton append_nil getElem?_take getElem?_of_mem zipWith eq_nil_of_length_eq_zero getElem?_zipWith sum_append zipWith_append getElem?_drop drop_eq_getElem_cons set_append_right take_zero length_zipWith length_singleton dropLast_concat drop_succ_cons mem_of_getLast?)
open Go Go.RowKit
set_option linter.unusedVariables false
set_option linter.unusedSimpArgs false
open Crc (p4 gf)
open Frame (g6 cC bZ cq fY ci aY gK nY ck dz)
theorem In:prog.underlying 102=some (.slice 30):=by kernel_rfl
theorem CR:d8 prog 102=true:=by kernel_rfl
theorem C0:gj prog 30 24=true:=by kernel_rfl
theorem sE {P:Program} {n:Nat} {first cap:Array Value} {args:List Value} {h:Heap} {Q:Value→Heap→Prop} (H:jh P n (first.toList++args) h Q):du P (.func (.yield n) first cap) args h Q:=H
theorem xE {x:List Nat} {a:Option Addr} {l c:Nat} {h:Heap} {F:List aF} (hF:aG F h) (hR:cv h a (x.map nv)) (hl:x.length=l) (hm:l≤140737488355328) :
  aE prog 133 [.slice a l c] h fun v h'=>∃ b a' c',v=.func (.func 165) #[] #[.pointer (some ⟨b,0,none⟩)]∧aG (pt b (.cells #[.slice a' l c'] 30 (0,0))::aQ 5 1 a' l c' (x.map nv)::F) h':=by
 apply Cs.ap
 unfold GX
 refine xg (xs:=[]) Df vv AK (bR 5 1 hF) (wv hR hl) (by omega) fun a' c' h1 _ H=>?_
 rw [aI]
 refine aW H fun b h2 H2=>?_
 simp only [aP]
 refine jW H2 (by decide) (eD 1 0 (by decide)) fun h3 H3=>?_
 rw [Nat.zero_add] at H3
 exact ⟨b,a',c',rfl,H3⟩
theorem eM (l:List (List Nat)) (x:List Nat):aY (l++[x])=aY l+(8+x.length):=by
 simp [aY,sum_append]
theorem xq {yv:Value} {cb:Nat} {x:List Nat} {a:Option Addr} {l c:Nat} {h:Heap} (G:List (List Nat)→List aF) (Out:Heap→Prop) (h8:B8 x) (hl:x.length=l) (hm:l≤1099511627776)
  (start:aG (pt cb (.cells #[.slice a l c] 30 (0,0))::aQ 5 1 a l c (x.map nv)::G []) h)
  (round:∀ done body more h2 xa xc,ci x=done++body::more→aY done+8+body.length≤l→
   aG (aQ 5 1 xa body.length xc (body.map nv)::pt cb (.cells #[.slice a l c] 30 (0,0))::aQ 5 1 a l c (x.map nv)::G done) h2→
   du prog yv [.int .i64 (aY done:Nat),.slice xa body.length xc] h2 fun r h3=>∃ go,r=.bool go∧(go=true→aG (pt cb (.cells #[.slice a l c] 30 (0,0))::aQ 5 1 a l c (x.map nv)::G (done++[body])) h3)∧(go=false→Out h3))
  (fin:∀ h2,aG (pt cb (.cells #[.slice a l c] 30 (0,0))::aQ 5 1 a l c (x.map nv)::G (ci x)) h2→Out h2) :
  aE prog 165 [yv,.pointer (some ⟨cb,0,none⟩)] h fun v h'=>v=.tuple #[]∧Out h':=by
 apply BZ.ap
 unfold GI
 refine ⟨fun st h1=>∃ done,st=((aY done:Nat):Int)∧aY done≤l∧ci x=done++ci (x.drop (aY done))∧aG (pt cb (.cells #[.slice a l c] 30 (0,0))::aQ 5 1 a l c (x.map nv)::G done) h1,fun st _=>((l:Int) - st).toNat,⟨[],rfl,aw _,rfl,start⟩,?_⟩
 rintro st h1 ⟨done,rfl,hd,hsc,H⟩
 obtain ⟨_,hlc,hc⟩:=dA H.drop
 have hcm:c≤9223372036854775807:=hc
 refine ⟨.slice a l c,by rw [cm H.get]; rfl,?_⟩
 show aZ (.slice a l c) _
 rw [aI]
 refine dI hd hlc (ax _) ?_
 have r1:cv h1 (fG a (aY done) c 1) ((x.drop (aY done)).map nv):=by
  have:=(aH H.drop).sub (aY done) (l - aY done) c (by omega);rw [← map_drop,← map_take,av (by rw [length_drop]; omega)] at this;exact this
 refine (xp r1 (h8.drop _) (by rw [length_drop,hl]) (by omega) (by omega)).mono ?_
 rintro v h2 ⟨⟨sa,sl,sc,rfl,hb⟩,rfl⟩
 refine ⟨sa,sl,sc,_,rfl,?_⟩
 cases hf:cq (x.drop (aY done)) with
 | none=>
   simp only [Option.isSome_none,aC,ae];refine ⟨trivial,fin _ ?_⟩;have:ci (x.drop (aY done))=[]:=by rw [Frame.fK,hf]
   rw [this,append_nil] at hsc;rw [hsc];exact H
 | some body=>
   obtain ⟨hbl,hbr,hbc,hbm⟩:=hb body hf;obtain ⟨_,hb2,hb3,_,_,hb8⟩:=Frame.eK (h8.drop _) hf;rw [length_drop,hl] at hb3;simp only [Option.isSome_some,aB,ab];refine xg (xs:=[]) Df vv AK (bR 5 1 H) (wv hbr hbl) (by omega) fun a' c' h3 _ H3=>?_;rw [aI];subst hbl;have hsc2:ci (x.drop (aY done))=body::ci (x.drop (aY done+(8+body.length))):=by
    rw [Frame.fK,hf];simp only [drop_drop]
   rw [Nat.zero_add] at H3 ⊢;refine (round done body _ h3 a' c' (by rw [hsc,hsc2]) (by omega) H3).mono ?_;rintro r h4 ⟨go,rfl,hgo,hstop⟩;rw [bO]
   cases go with
   | false=>exact ⟨trivial,hstop rfl⟩
   | true=>
     rw [aB,ab];have w:wrap .i64 (((aY done:Nat):Int)+wrap .i64 (8+(body.length:Int)))=((aY (done++[body]):Nat):Int):=by
      rw [eM,IntWalk.i64_in (8+(body.length:Int)) (by omega),IntWalk.i64_in _ (by omega)];omega
     rw [w];refine ⟨⟨done++[body],rfl,by rw [eM]; omega,?_,hgo rfl⟩,?_⟩
     · rw [hsc,hsc2,eM,append_assoc]
       rfl
     · rw [eM];omega
def qi (x:List Nat) (v:Value):aF:=fun r=>∃ (a:Option Addr) (l c:Nat),v=.slice a l c∧x.length=l∧∀ h,sub r h→cv h a (x.map nv)
theorem sC {x:List Nat} {v:Value} {F:List aF} {h:Heap} (H:aG (qi x v::F) h):∃ a l c,v=.slice a l c∧cv h a (x.map nv)∧x.length=l:=by
 obtain ⟨r,⟨r1,r2,hd,rfl,⟨a,l,c,hv,hl,ho⟩,h2⟩,hs⟩:=H
 exact ⟨a,l,c,hv,ho h (sQ hs),hl⟩
theorem CP (m c':Nat) {x:List Nat} {a:Option Addr} {l c:Nat} {F:List aF} {h:Heap} (H:aG (aQ 5 1 a l c (x.map nv)::F) h) (hx:x.length=l):aG (qi x (.slice (fG a 0 m 1) l c')::F) h:=by
 refine H.imp fun r hr=>⟨_,l,c',rfl,hx,fun h2 hs=>?_⟩
 have K:aG [aQ 5 1 a l c (x.map nv)] h2:=⟨r,by
  refine ⟨r,fun _=>none,?_,?_,hr,fun _=>rfl⟩
  · intro b y z _ hz;cases hz
  funext b;unfold cz;cases r b <;> rfl,hs⟩
 have e:fG a 0 m 1=a:=by
  unfold fG;split
  · rfl
  · cases a with
    | none=>rfl
    | some a=>simp
 rw [e]
 exact aH K
def vI (b:Nat) (done:List (List Nat)):aF:=pZ fun q:Option Addr×Nat×Nat=>bP [pt b (.cells #[.slice q.1 q.2.1 q.2.2] 102 (0,0)),fR qi 30 q.1 q.2.1 q.2.2 done]
theorem jK (x:List Nat) (h8:B8 x):∀ (n:Nat) (done:List (List Nat)),done.length=n→aY done≤x.length→8*n≤x.length:=by
 intro n done hn hr
 have:∀ l:List (List Nat),8*l.length≤aY l:=by
  intro l
  induction l with
  | nil=>simp [aY]
  | cons y l ih=>
    have e:aY (y::l)=(8+y.length)+aY l:=rfl;rw [e,ar];omega
 have:=this done
 omega
def bp (x:List Nat):List (List Nat):=(ci x).takeWhile fun y=>decide (y.length≤1024)
theorem i9 {p:List Nat→Bool}:∀ {l:List (List Nat)},(∀ y∈l,p y=true)→l.takeWhile p=l
 | [],_=>rfl
 | y::l,h=>by rw [List.takeWhile_cons,an (h y (by simp)),i9 fun z hz=>h z (by simp [hz])]
theorem wR {x:List Nat} (h:∀ y∈ci x,y.length≤1024):bp x=ci x:=i9 fun y hy=>ah (h y hy)
theorem j9 {p:List Nat→Bool} {l done more:List (List Nat)} {b:List Nat} (h:l=done++b::more) (hd:∀ y∈done,p y=true) (hb:p b=false):l.takeWhile p=done:=by
 subst h
 induction done with
 | nil=>simp [hb]
 | cons y done ih=>
   have:=hd y (by simp);simp only [cons_append,List.takeWhile_cons,this,if_true];rw [ih fun z hz=>hd z (by simp [hz])]
theorem tV {x:List Nat} {a:Option Addr} {l c:Nat} {h:Heap} {F:List aF} (hF:aG F h) (hR:∀ h',aG F h'→cv h' a (x.map nv)) (h8:B8 x) (hl:x.length=l) (hm:l≤1099511627776) :
  aE prog 93 [.slice a l c] h fun v h'=>∃ a' c',v=.tuple #[.slice a' (bp x).length c',.int .i64 (aY (bp x):Nat)]∧aG (fR qi 30 a' (bp x).length c' (bp x)::F) h':=by
 apply Bb.ap
 unfold FY
 refine aW hF fun b1 h1 H1=>aW H1 fun b2 h2 H2=>?_
 simp only [aP]
 refine jW H2 (by decide) (eD 1 0 (by decide)) fun h3 H3=>?_
 refine (xE H3 (hR _ H3.drop.drop) hl (by omega)).mono ?_
 rintro v h4 ⟨b3,a3,c3,rfl,H4⟩
 refine ⟨_,rfl,?_⟩
 intro rec hrec hy
 refine kE ?_
 show aE prog 165 [.func (.yield (h4.size+1)) #[] #[],.pointer (some ⟨b3,0,none⟩)] _ _
 have H5:=(H4.push (.deferred (some []))).push (rec .ready none)
 rw [Array.size_push] at H5
 refine (xq (x:=x) (a:=a3) (l:=l) (c:=c3) (G:=fun done=>pt (h4.size+1) (rec .ready none)::pt h4.size (.deferred (some []))::pt b2 (.cells #[.int .i64 ((aY done:Nat):Int)] 3 (0,0))::vI b1 done::lY (∀ y∈done,decide (y.length≤1024)=true)::F)
  (Out:=fun h2=>∃ st pend,((st=.ready∧pend=none)∨(st=.done∧pend=some (.exit 0)))∧aG (pt (h4.size+1) (rec st pend)::pt h4.size (.deferred (some []))::pt b2 (.cells #[.int .i64 ((aY (bp x):Nat):Int)] 3 (0,0))::vI b1 (bp x)::F) h2) h8 hl hm ?_ ?_ ?_).mono ?_
 · -- the start: L,D,b3,own,b2,b1,F
   have K1:aG (pt b1 (.cells #[.slice none 0 0] 102 (0,0))::pt (h4.size+1) (rec .ready none)::pt h4.size (.deferred (some []))::pt b3 (.cells #[.slice a3 l c3] 30 (0,0))::aQ 5 1 a3 l c3 (x.map nv)::pt b2 (.cells #[.int .i64 0] 3 (0,0))::F) _:=H5.mv 5;have K2:=(jv qi 30 K1).mv 1;have K3:aG (vI b1 []::pt (h4.size+1) (rec .ready none)::pt h4.size (.deferred (some []))::pt b3 (.cells #[.slice a3 l c3] 30 (0,0))::aQ 5 1 a3 l c3 (x.map nv)::pt b2 (.cells #[.int .i64 0] 3 (0,0))::F) _:=
    bD.2 ⟨(none,0,0),aG.shut K2⟩
   have K4:aG (lY (∀ y∈([]:List (List Nat)),decide (y.length≤1024)=true)::_) _:=cE.2 ⟨by simp,K3⟩;exact K4.ordT 7 [4,5,2,3,6,1,0]
 · intro done body more h6 xa xc hsc hle H6;refine sE ?_;show jh prog (h4.size+1) [.int .i64 (aY done:Nat),.slice xa body.length xc] h6 _;obtain ⟨hall,H6⟩:=cE.1 (H6.mv 7);refine hy _ _ _ rfl (H6.mv 3).get ⟨_,_,_,_,rfl,(H6.mv 3).get,?_⟩;have H7:=((H6.mv 3).set (rec .busy none))
   by_cases hbig:body.length>1024
   · rw [ah (show ((body.length:Int)>1024) by omega),ae];refine ⟨H7.get,false,rfl,(fun e=>by cases e),fun _=>⟨.done,_,.inr ⟨rfl,rfl⟩,?_⟩⟩;have eg:bp x=done:=j9 hsc hall (by rw [af (by omega)]);rw [eg];exact (H7.set (rec .done (some (.exit 0)))).ordT 7 [0,4,5,6]
   · rw [af (show ¬ ((body.length:Int)>1024) by omega),ab];obtain ⟨⟨la,ll,lc⟩,H8⟩:=bD.1 (H7.mv 6);have H9:=H8.open;obtain ⟨hll,hllc,hlcm⟩:=me H9.drop;simp only at hll hllc hlcm;refine gd (v:=.slice la ll lc) H9.get rfl ?_;rw [aI];refine dI (lo:=0) (hi:=body.length) (mx:=body.length) (aw _) (ax _) (dA (H9.mv 3)).2.1 ?_;rw [Nat.sub_zero];refine aW H9 fun b4 h10 H10=>?_;refine ⟨gd (v:=.slice la ll lc) (H10.mv 1).get rfl (by rw [aI]; rfl),?_⟩;have hr4:cv h10 (some ⟨b4,0,none⟩) [.slice (fG xa 0 body.length 1) body.length body.length]:=ge H10 rfl;have K2:=(CP body.length body.length (H10.mv 4) rfl).ordT 9 [3,0,1,2,4,5,6,7,8];have hcnt:=jK x h8 done.length done rfl (by omega);refine CV In CR C0 (by omega) K2 rfl hr4 fun a' c' h11 H11=>?_;rw [aI];refine sV (H11.mv 2) fun h12 H12=>?_;refine sV (H12.mv 7) fun h13 H13=>?_;have H14:=H13.mv 4;refine ⟨H14.get,true,rfl,fun _=>?_,fun e=>by cases e⟩;have H15:=H14.set (rec .ready none);have w:wrap .i64 (wrap .i64 (((aY done:Nat):Int)+8)+(body.length:Int))=((aY (done++[body]):Nat):Int):=by
      rw [eM,IntWalk.i64_in (((aY done:Nat):Int)+8) (by omega),IntWalk.i64_in _ (by omega)];omega
     rw [w] at H15;have H16:=H15.ordT 8 [2,3,5,6,0,7,1];have H17:aG (vI b1 (done++[body])::pt b3 (.cells #[.slice a3 l c3] 30 (0,0))::aQ 5 1 a3 l c3 (x.map nv)::pt (h4.size+1) (rec .ready none)::pt h4.size (.deferred (some []))::pt b2 (.cells #[.int .i64 ((aY (done++[body]):Nat):Int)] 3 (0,0))::F) _:=bD.2 ⟨(a',ll+1,c'),aG.shut (m:=[pt b1 (.cells #[.slice a' (ll+1) c'] 102 (0,0)),fR qi 30 a' (ll+1) c' (done++[body])]) H16⟩;have hall2:∀ y∈done++[body],decide (y.length≤1024)=true:=by
      intro y hy
      rcases List.mem_append.1 hy with hy | hy
      · exact hall y hy
      · rw [mem_singleton] at hy;subst hy;exact ah (by omega)
     exact (cE.2 ⟨hall2,H17⟩).ordT 7 [2,3,4,5,6,1,0]
 · intro h6 H6;obtain ⟨hall,H7⟩:=cE.1 (H6.mv 6);have eg:bp x=ci x:=i9 hall;rw [eg];exact ⟨.ready,none,.inl ⟨rfl,rfl⟩,H7.rest 2⟩
 · rintro v h6 ⟨_,st,pend,hst,H6⟩;have H7:=H6.set (rec .exhausted pend);have fin:Ld (h6.setIfInBounds (h4.size+1) (rec .exhausted pend)) ⟨b1,0,none⟩ fun v2=>aZ v2 fun x4a x4l x4c=>
    Ld (h6.setIfInBounds (h4.size+1) (rec .exhausted pend)) ⟨b2,0,none⟩ fun v3=>DI .i64 v3 fun x5=>
    (h6.setIfInBounds (h4.size+1) (rec .exhausted pend))[h4.size]? = some (.deferred (some []))∧
    ∃ a' c',Value.tuple #[.slice x4a x4l x4c,.int .i64 x5]=.tuple #[.slice a' (bp x).length c',.int .i64 (aY (bp x):Nat)]∧
      aG (fR qi 30 a' (bp x).length c' (bp x)::F) ((h6.setIfInBounds (h4.size+1) (rec .exhausted pend)).setIfInBounds h4.size (.deferred none)):=by
    obtain ⟨⟨la,ll,lc⟩,H8⟩:=bD.1 (H7.mv 3);have H9:=H8.open;obtain ⟨hll,hllc,hlcm⟩:=me H9.drop;simp only at hll hllc hlcm;refine gd (v:=.slice la ll lc) H9.get rfl ?_;rw [aI];refine gd (v:=.int .i64 ((aY (bp x):Nat):Int)) (H9.mv 4).get rfl ?_;rw [aL];have H10:=H9.mv 3;refine ⟨H10.get,la,lc,by rw [hll],?_⟩;rw [hll];exact (H10.set (.deferred none)).ordT 5 [2]
   refine ⟨st,pend,H6.get,?_,?_,fun _=>fin,fun _=>fin⟩
   · rcases hst with ⟨rfl,_⟩ | ⟨rfl,_⟩ <;> decide
   · rcases hst with ⟨_,rfl⟩ | ⟨_,rfl⟩
     · exact .inl rfl
     · exact .inr rfl
open Frame (bZ)
theorem dC {x:List Nat} (h8:B8 x):(dW x).size=x.length:=by rw [← bE,dx h8]
namespace AF
def cG (n:Nat):ByteArray:=⟨#[115,46]⟩++dW (Hex.eQ 16 n)
structure eH where
 base:Nat
 count:Nat
 size:Nat
structure aU where
 dir:ByteArray
 size:Nat
 parts:List eH
 fin:Nat
 dur:Nat
def aU.sync (L:aU) (A:FS):FS×Nat:=match L.parts.getLast? with
 | none=>(A,0)
 | some p=>A.sync L.dir (cG p.base)
def aU.synced (L:aU) (e:Nat):aU:=if e=0 then { L with dur:=L.fin } else L
def aU.roll (L:aU) (A:FS):FS×aU×Nat:=
 let r1:=L.sync A
 if r1.2≠0 then (r1.1,L,r1.2) else
 let r2:=r1.1.create L.dir (cG L.fin)
 if r2.2≠0 then (r2.1,{ L with dur:=L.fin },r2.2) else
 let r3:=r2.1.syncDir L.dir
 if r3.2≠0 then (r3.1,{ L with dur:=L.fin },r3.2) else
 (r3.1,{ L with dur:=L.fin,parts:=L.parts++[⟨L.fin,0,0⟩] },0)
def aU.put (L:aU) (A:FS) (b:List Nat):FS×aU×Except Nat Nat:=match L.parts.getLast? with
 | none=>(A,L,.error 0)
 | some p=>
   let r:=A.append L.dir (cG p.base) (bZ b)
   if r.2≠0 then (r.1,L,.error r.2) else (r.1,{ L with parts:=L.parts.dropLast++[⟨p.base,p.count+1,p.size+(8+b.length)⟩],fin:=L.fin+1 },.ok L.fin)
def aU.full (L:aU):Bool:=match L.parts.getLast? with
 | none=>true
 | some p=>decide (L.size≤p.size)
def aU.append (L:aU) (A:FS) (b:List Nat):FS×aU×Except Nat Nat:=
 if 1024<b.length then (A,L,.error 100) else
 if L.full then
  let r:=L.roll A
  if r.2.2≠0 then (r.1,r.2.1,.error r.2.2) else r.2.1.put r.1 b
 else L.put A b
structure aU.Small (k:Nat) (L:aU):Prop where
 few:k≤100000
 size:L.size≤16777216
 dir:L.dir.size<4611686018427387904
 many:L.parts.length≤k
 fin:L.fin≤k*16777216
 each:∀ p∈L.parts,p.base≤k*16777216∧p.count≤k*16777216∧p.size≤k*16777216
theorem iA (n:Nat):(cG n).size=18:=by
 unfold cG
 rw [ByteArray.size_append,dC (Hex.ig 16 n),Hex.fm]
 rfl
end AF
def bA (ps:List AF.eH):List Value:=ps.flatMap fun p=>[.int .i64 (p.base:Int),.int .i64 (p.count:Int),.int .i64 (p.size:Int)]
theorem dt (a b:List AF.eH):bA (a++b)=bA a++bA b:=by simp [bA]
theorem ki (p:AF.eH) (b:List AF.eH):bA (p::b)=.int .i64 (p.base:Int)::.int .i64 (p.count:Int)::.int .i64 (p.size:Int)::bA b:=rfl
theorem cX (ps:List AF.eH):(bA ps).length=ps.length*3:=by
 induction ps with
 | nil=>rfl
 | cons p ps ih=>rw [ki,ar,ar,ar,ih,ar]; omega
theorem iD:∀ {ps:List AF.eH} {i:Nat} {p:AF.eH},ps[i]? = some p→(bA ps)[i*3]? = some (.int .i64 (p.base:Int))∧(bA ps)[i*3+1]? = some (.int .i64 (p.count:Int))∧(bA ps)[i*3+2]? = some (.int .i64 (p.size:Int))
 | [],i,p,h=>by cases h
 | q::ps,0,p,h=>by
   cases h;exact ⟨rfl,rfl,rfl⟩
 | q::ps,i+1,p,h=>by
   have ih:=iD (ps:=ps) (i:=i) (p:=p) h;rw [show (i+1)*3=i*3+3 by omega,ki];exact ih
theorem nu (a:List AF.eH) (p:AF.eH):(bA (a++[p])).set (a.length*3+1) (.int .i64 ((p.count+1:Nat):Int))=bA (a++[⟨p.base,p.count+1,p.size⟩]):=by
 rw [dt,dt,set_append_right _ _ (by rw [cX]; omega),cX,show a.length*3+1 - a.length*3=1 by omega]
 rfl
theorem ma (a:List AF.eH) (p:AF.eH) (n:Nat):(bA (a++[p])).set (a.length*3+2) (.int .i64 ((n:Nat):Int))=bA (a++[⟨p.base,p.count,n⟩]):=by
 rw [dt,dt,set_append_right _ _ (by rw [cX]; omega),cX,show a.length*3+2 - a.length*3=2 by omega]
 rfl
def eJ (fb:Nat) (L:AF.aU) (a:Option Addr) (c:Nat):Array Value:=#[aM fb,.string L.dir,.int .i64 (L.size:Int),.slice a L.parts.length c,.int .i64 (L.fin:Int),.int .i64 (L.dur:Int)]
def cy (lb fb:Nat) (L:AF.aU):aF:=pZ fun q:Option Addr×Nat=>bP [pt lb (.cells (eJ fb L q.1 q.2) 152 (0,0)),aQ 158 3 q.1 L.parts.length q.2 (bA L.parts)]
section
variable {lb fb:Nat} {L:AF.aU} {A:AF.FS} {F:List aF} {h:Heap} {k:Nat}
theorem gb (H:aG (cy lb fb L::F) h):∃ (a:Option Addr) (c:Nat),aG (pt lb (.cells (eJ fb L a c) 152 (0,0))::aQ 158 3 a L.parts.length c (bA L.parts)::F) h:=by
 obtain ⟨⟨a,c⟩,H2⟩:=bD.1 H
 exact ⟨a,c,H2.open⟩
theorem cw {a:Option Addr} {c:Nat} (H:aG (pt lb (.cells (eJ fb L a c) 152 (0,0))::aQ 158 3 a L.parts.length c (bA L.parts)::F) h):aG (cy lb fb L::F) h:=
 bD.2 ⟨(a,c),aG.shut (m:=[pt lb (.cells (eJ fb L a c) 152 (0,0)),aQ 158 3 a L.parts.length c (bA L.parts)]) H⟩
theorem iQ {n:Nat} (hn:n<9223372036854775808) (H:aG F h):aE prog 89 [.int .i64 (n:Int)] h fun v h'=>v=.string (AF.cG n)∧aG F h':=by
 apply Bf.ap
 unfold F3
 refine (xF H).mono ?_
 rintro v h1 ⟨rfl,H1⟩
 rw [aT,qF (by omega)]
 refine ⟨?_,rfl,H1⟩
 rw [dC (Hex.ig 16 n),Hex.fm]
 decide
def qQ (a:Option Addr) (n:Nat):Option Addr:=if n=0 then none else a.map fun b=>b.add ((n - 1)*3)
theorem pI {a:Option Addr} {c:Nat} (hs:L.parts.length<4611686018427387904) (H:aG (pt lb (.cells (eJ fb L a c) 152 (0,0))::aQ 158 3 a L.parts.length c (bA L.parts)::F) h) :
  aE prog 86 [aM lb] h fun v h'=>v=.pointer (qQ a L.parts.length)∧h'=h:=by
 apply Bh.ap
 unfold F5
 simp only [aK]
 refine dX (v:=.slice a L.parts.length c) H rfl ?_
 rw [aI]
 by_cases h0:L.parts.length=0
 · rw [h0,show ((((0:Nat):Int))==0)=true from rfl,ae];exact ⟨rfl,by trivial⟩
 · rw [show (((L.parts.length:Nat):Int)==0)=false by rw [beq_eq_false_iff_ne]; omega,ab];refine dX (v:=.slice a L.parts.length c) H rfl ?_;rw [aI];refine dX (v:=.slice a L.parts.length c) H rfl ?_;rw [aI];have w:wrap .i64 ((L.parts.length:Int) - 1)=((L.parts.length - 1:Nat):Int):=by rw [IntWalk.i64_in _ (by omega)]; omega
   rw [w];obtain ⟨b,hb,_⟩:=(aH (H.mv 1)).nilOr (i:=0) (v:=(bA L.parts)[0]'(by rw [cX]; omega)) (ai _);refine ⟨b,hb,by omega,by omega,?_,by trivial⟩;unfold qQ;rw [am h0,hb,Int.toNat_natCast]
   rfl
theorem iE {ps:List AF.eH} {p:AF.eH} (h:ps.getLast? = some p):ps=ps.dropLast++[p]:=by
 obtain ⟨ys,rfl⟩:=List.getLast?_eq_some_iff.1 h
 rw [dropLast_concat]
theorem kN {a:Option Addr} {c:Nat} {p:AF.eH} (hp:L.parts.getLast? = some p) (H:aG (aQ 158 3 a L.parts.length c (bA L.parts)::F) h) :
  ∃ b,a=some b∧qQ a L.parts.length=some (b.add (L.parts.dropLast.length*3))∧bI h ((b.add (L.parts.dropLast.length*3)).add 0)=some (.int .i64 (p.base:Int))∧
    bI h ((b.add (L.parts.dropLast.length*3)).add 1)=some (.int .i64 (p.count:Int))∧bI h ((b.add (L.parts.dropLast.length*3)).add 2)=some (.int .i64 (p.size:Int)):=by
 have hs:=iE hp
 have hl:L.parts.length=L.parts.dropLast.length+1:=by
  have:=congrArg List.length hs;simpa using this
 have hg:L.parts[L.parts.dropLast.length]? = some p:=by
  rw [List.getLast?_eq_getElem?] at hp;rw [← hp,hl]
  rfl
 obtain ⟨h0,h1,h2⟩:=iD hg
 have hr:=aH H
 obtain ⟨b,hb,c0⟩:=hr.nilOr h0
 obtain ⟨b1,hb1,c1⟩:=hr.nilOr h1
 obtain ⟨b2,hb2,c2⟩:=hr.nilOr h2
 rw [hb] at hb1 hb2
 cases hb1
 cases hb2
 refine ⟨b,hb,?_,?_,?_,?_⟩
 · unfold qQ;rw [am (by omega),hb,hl]
   rfl
 · rw [bm,Nat.add_zero]; exact c0
 · rw [bm]; exact c1
 · rw [bm]; exact c2
theorem kC (W:A.WF) (hs:A.steps<1099511627776) (S:L.Small k) (H:aG (cy lb fb L::bV fb A::F) h) :
  aE prog 39 [aM lb] h fun v h'=>v=.int .i64 ((L.sync A).2:Int)∧aG (cy lb fb (L.synced (L.sync A).2)::bV fb (L.sync A).1::F) h':=by
 apply BJ.ap
 unfold Gv
 rw [show (some (⟨lb,0,none⟩:Addr)).isNone=false from rfl,ab]
 obtain ⟨a,c,H1⟩:=gb H
 have hfew:=S.few
 have hmany:=S.many
 refine (pI (by omega) H1).mono ?_
 rintro v h0 ⟨rfl,rfl⟩
 rw [bo]
 simp only [aK]
 have setD:∀ h',aG (pt lb (.cells (eJ fb L a c) 152 (0,0))::aQ 158 3 a L.parts.length c (bA L.parts)::bV fb (L.sync A).1::F) h'→(L.sync A).2=0→
   Ld h' ((⟨lb,0,none⟩:Addr).add 4) fun v6=>DI .i64 v6 fun x7=>bN h' (((⟨lb,0,none⟩:Addr).add 5).add 0) (.int .i64 x7) fun h_6=>
    (Value.int .i64 0=.int .i64 ((L.sync A).2:Int)∧aG (cy lb fb (L.synced (L.sync A).2)::bV fb (L.sync A).1::F) h_6):=by
  intro h' H' e0;refine dX (v:=.int .i64 (L.fin:Int)) H' rfl ?_;rw [aL,aP];refine ct (c':=eJ fb { L with dur:=L.fin } a c) H' (by show 5<6; decide) rfl fun h2 H2=>?_;rw [e0];refine ⟨rfl,?_⟩;rw [AF.aU.synced,an rfl];exact cw H2
 cases hp:L.parts.getLast? with
 | none=>
   have h00:L.parts=[]:=by simpa using hp
   have e1:qQ a L.parts.length=none:=by rw [h00]; rfl
   rw [e1,show (!((none:Option Addr)).isNone)=false from rfl,ab];have es:L.sync A=(A,0):=by unfold AF.aU.sync; rw [hp]
   have:=setD h0 (by rw [es]; exact H1) (by rw [es]);exact this
 | some p=>
   have es:L.sync A=A.sync L.dir (AF.cG p.base):=by unfold AF.aU.sync; rw [hp]
   obtain ⟨b,hb,hla,c0,c1,c2⟩:=kN hp (H1.mv 1);rw [hla,show (!((some (b.add (L.parts.dropLast.length*3)))).isNone)=true from rfl,ae];refine dX (v:=aM fb) H1 rfl ?_;show DP (.pointer (some ⟨fb,0,none⟩)) _;rw [bo];refine dX (v:=.string L.dir) H1 rfl ?_;rw [aT,aK];refine ⟨_,c0,?_⟩;show DI .i64 (.int .i64 (p.base:Int)) _;rw [aL];have hpb:=S.each p (mem_of_getLast? hp);refine (iQ (by omega) H1).mono ?_;rintro v h2 ⟨rfl,H2⟩;rw [aT];refine ⟨rfl,rfl,rfl,dX (v:=aM fb) H2 rfl ?_,rfl,rfl,rfl,dX (v:=.string L.dir) H2 rfl (by rw [aT]; rfl),?_⟩
   · show DP (.pointer (some ⟨fb,0,none⟩)) _;rw [bo]
     rfl
   refine (pP W hs S.dir (by rw [AF.iA]; decide) (H2.mv 2)).mono ?_;rintro v h3 ⟨rfl,H3⟩;rw [aL,← es];rw [← es] at H3;by_cases he:(L.sync A).2=0
   · rw [he,show (((0:Nat):Int)!=0)=false from rfl,ab];have:=setD h3 ((H3.mv 1).mv 2 |>.ordT 3 [1,0,2]) he;rw [he] at this;exact this
   · rw [aX he,ae];refine ⟨rfl,?_⟩;rw [AF.aU.synced,am he];exact cw (H3.ordT 3 [1,2,0])
end
set_option maxRecDepth 4000
open Frame (bZ ck dz)
theorem Fb:prog.underlying 150=some (.slice 158):=by kernel_rfl
theorem yi:d8 prog 150=true:=by kernel_rfl
theorem yS:gi prog 158 3 24=true:=by kernel_rfl
namespace AF
variable {L:aU} {A:FS} {k:Nat}
theorem aU.Small.grow {k':Nat} (S:L.Small k) (hk:k≤k') (hk':k'≤100000):L.Small k':=by
 have hm:k*16777216≤k'*16777216:=Nat.mul_le_mul_right _ hk
 exact ⟨hk',S.size,S.dir,Nat.le_trans S.many hk,Nat.le_trans S.fin hm,fun p hp=>⟨Nat.le_trans (S.each p hp).1 hm,Nat.le_trans (S.each p hp).2.1 hm,Nat.le_trans (S.each p hp).2.2 hm⟩⟩
theorem aU.sync_wf (W:A.WF):(L.sync A).1.WF:=by
 unfold aU.sync
 split
 · exact W
 · exact W.sync _ _
theorem aU.iw:(L.sync A).1.steps≤A.steps+1:=by
 unfold aU.sync
 split
 · exact Nat.le_succ _
 · exact AF.iw _ _
theorem aU.roll1 (h:(L.sync A).2≠0):L.roll A=((L.sync A).1,L,(L.sync A).2):=by
 unfold aU.roll
 simp only [h,if_true,ne_eq,not_false_eq_true]
theorem aU.roll2 (h:(L.sync A).2=0) (h2:((L.sync A).1.create L.dir (cG L.fin)).2≠0):L.roll A=(((L.sync A).1.create L.dir (cG L.fin)).1,{ L with dur:=L.fin },((L.sync A).1.create L.dir (cG L.fin)).2):=by
 unfold aU.roll
 simp only [h,h2,if_true,if_false,ne_eq,not_false_eq_true,not_true]
theorem aU.roll3 (h:(L.sync A).2=0) (h2:((L.sync A).1.create L.dir (cG L.fin)).2=0) (h3:(((L.sync A).1.create L.dir (cG L.fin)).1.syncDir L.dir).2≠0) :
  L.roll A=((((L.sync A).1.create L.dir (cG L.fin)).1.syncDir L.dir).1,{ L with dur:=L.fin },(((L.sync A).1.create L.dir (cG L.fin)).1.syncDir L.dir).2):=by
 unfold aU.roll
 simp only [h,h2,h3,if_true,if_false,ne_eq,not_false_eq_true,not_true]
theorem aU.roll4 (h:(L.sync A).2=0) (h2:((L.sync A).1.create L.dir (cG L.fin)).2=0) (h3:(((L.sync A).1.create L.dir (cG L.fin)).1.syncDir L.dir).2=0) :
  L.roll A=((((L.sync A).1.create L.dir (cG L.fin)).1.syncDir L.dir).1,{ L with dur:=L.fin,parts:=L.parts++[⟨L.fin,0,0⟩] },0):=by
 unfold aU.roll
 simp only [h,h2,h3,if_false,ne_eq,not_true]
theorem aU.roll_keeps (W:A.WF) (S:L.Small k) (hk:k<100000):(L.roll A).1.WF∧(L.roll A).1.steps≤A.steps+3∧(L.roll A).2.1.Small (k+1):=by
 have W1:=aU.sync_wf (L:=L) W
 have s1:=aU.iw (L:=L) (A:=A)
 have W2:=W1.create L.dir (cG L.fin)
 have s2:=AF.jU (A:=(L.sync A).1) L.dir (cG L.fin)
 have W3:=W2.syncDir L.dir
 have s3:=AF.ja (A:=((L.sync A).1.create L.dir (cG L.fin)).1) L.dir
 have hm:=S.many
 have hf:=S.fin
 have S1:L.Small (k+1):=S.grow (Nat.le_succ k) (by omega)
 have S2:aU.Small (k+1) { L with dur:=L.fin }:=⟨S1.few,S1.size,S1.dir,S1.many,S1.fin,S1.each⟩
 by_cases h1:(L.sync A).2=0
 · by_cases h2:((L.sync A).1.create L.dir (cG L.fin)).2=0
   · by_cases h3:(((L.sync A).1.create L.dir (cG L.fin)).1.syncDir L.dir).2=0
     · rw [aU.roll4 h1 h2 h3];refine ⟨W3,by dsimp only; omega,by omega,S.size,S.dir,?_,S1.fin,?_⟩
       · show (L.parts++[_]).length≤_;rw [ao,length_singleton];omega
       · intro p hp
         rcases List.mem_append.1 hp with hp | hp
         · exact S1.each p hp
         · rw [mem_singleton] at hp;subst hp;exact ⟨S1.fin,aw _,aw _⟩
     · rw [aU.roll3 h1 h2 h3];exact ⟨W3,by dsimp only; omega,S2⟩
   · rw [aU.roll2 h1 h2];exact ⟨W2,by dsimp only; omega,S2⟩
 · rw [aU.roll1 h1];exact ⟨W1,by dsimp only; omega,S1⟩
theorem aU.put_keeps (W:A.WF) (S:L.Small k) (hk:k<100000) {b:List Nat} (h8:B8 b) (hl:b.length≤1024):(L.put A b).1.WF∧(L.put A b).1.steps≤A.steps+1∧(L.put A b).2.1.Small (k+1):=by
 have hm:=S.many
 have hf:=S.fin
 have S1:L.Small (k+1):=S.grow (Nat.le_succ k) (by omega)
 have hk1:∀ n:Nat,n*16777216+16777216=(n+1)*16777216:=fun n=>by omega
 replace hk1:=hk1 k
 unfold aU.put
 split
 · exact ⟨W,Nat.le_succ _,S1⟩
 · rename_i p hp;have W1:=W.append L.dir (cG p.base) (dz h8);have s1:=AF.mu (A:=A) L.dir (cG p.base) (bZ b);have hpm:=mem_of_getLast? hp;have hpe:=S.each p hpm;have hlen:1≤L.parts.length:=List.length_pos_of_mem hpm;simp only;split
   · exact ⟨W1,s1,S1⟩
   · refine ⟨W1,s1,by omega,S.size,S.dir,?_,?_,?_⟩
     · show (L.parts.dropLast++[_]).length≤_;rw [ao,length_singleton,List.length_dropLast];omega
     · show L.fin+1≤_;rw [← hk1];omega
     · intro q hq
       rcases List.mem_append.1 hq with hq | hq
       · exact S1.each q (List.dropLast_subset _ hq)
       · rw [mem_singleton] at hq;subst hq;show p.base≤_∧p.count+1≤_∧p.size+(8+b.length)≤_;rw [← hk1];exact ⟨Nat.le_trans hpe.1 (Nat.le_add_right _ _),Nat.add_le_add hpe.2.1 (by decide),Nat.add_le_add hpe.2.2 (by omega)⟩
end AF
section
variable {lb fb:Nat} {L:AF.aU} {A:AF.FS} {F:List aF} {h:Heap} {k:Nat}
theorem dK {h:Heap} {F:List aF} {b i:Nat} {c:Array Value} {e:TypeId} {fr:Nat×Nat} {x:Nat} {K:Option Addr→Prop} (H:aG (pt b (.cells c e fr)::F) h) (hv:c[i]? = some (aM x)) (hK:K (some ⟨x,0,none⟩)) :
 Ld h ((Addr.mk b 0 none).add i) fun v=>DP v K:=dX (v:=aM x) H hv ⟨_,rfl,hK⟩
theorem tW (W:A.WF) (hs:A.steps+3<1099511627776) (S:L.Small k) (hk:k<100000) (H:aG (cy lb fb L::bV fb A::F) h) :
  aE prog 87 [aM lb] h fun v h'=>v=.int .i64 ((L.roll A).2.2:Int)∧aG (cy lb fb (L.roll A).2.1::bV fb (L.roll A).1::F) h':=by
 apply Bg.ap
 unfold F4
 refine (kC W (by omega) S H).mono ?_
 rintro v h0 ⟨rfl,H0⟩
 rw [aL]
 have W1:=AF.aU.sync_wf (L:=L) W
 have s1:=AF.aU.iw (L:=L) (A:=A)
 have hm:=S.many
 have hf:=S.fin
 by_cases e1:(L.sync A).2=0
 · rw [e1,AF.aU.synced,an rfl] at H0;rw [e1,show (((0:Nat):Int)!=0)=false from rfl,ab];simp only [aK];obtain ⟨a,c,H1⟩:=gb H0;refine dK H1 rfl ?_;refine bz H1 rfl ?_;refine bM (x:=(L.fin:Int)) H1 rfl ?_;refine (iQ (by omega) H1).mono ?_;rintro v h2 ⟨rfl,H2⟩;rw [aT];refine ⟨rfl,rfl,rfl,dK H2 rfl rfl,rfl,rfl,rfl,bz H2 rfl rfl,?_⟩;refine (pR W1 (by omega) S.dir (by rw [AF.iA]; decide) (H2.mv 2)).mono ?_;rintro v h3 ⟨rfl,H3⟩;rw [aL];have W2:=W1.create L.dir (AF.cG L.fin);have s2:=AF.jU (A:=(L.sync A).1) L.dir (AF.cG L.fin);by_cases e2:((L.sync A).1.create L.dir (AF.cG L.fin)).2=0
   · rw [e2,show (((0:Nat):Int)!=0)=false from rfl,ab];have H4:=H3.ordT 3 [1,2,0];refine dK H4 rfl ?_;refine bz H4 rfl ?_;refine (kB W2 (by omega) S.dir H3).mono ?_;rintro v h4 ⟨rfl,H5⟩;rw [aL];by_cases e3:(((L.sync A).1.create L.dir (AF.cG L.fin)).1.syncDir L.dir).2=0
     · rw [e3,show (((0:Nat):Int)!=0)=false from rfl,ab,AF.aU.roll4 e1 e2 e3];have H6:=H5.ordT 3 [1,2,0];refine bH (a:=a) (l:=L.parts.length) (m:=c) H6 rfl ?_;refine bM (x:=(L.fin:Int)) H6 rfl ?_;refine aW H6 fun b0 h5 H7=>?_;refine ⟨rfl,rfl,rfl,rfl,bH (a:=a) (l:=L.parts.length) (m:=c) (H7.mv 1) rfl rfl,?_⟩;have hr:cv h5 (some ⟨b0,0,none⟩) (bA [⟨L.fin,0,0⟩]):=ge H7 rfl;refine gP Fb yi yS (H7.mv 2) (n:=1) (bJ hr rfl) (by intro u hu; simp [bA] at hu; rcases hu with rfl | rfl <;> rfl) (by omega) fun a' c' h6 _ H8=>?_;rw [aI];refine ⟨rfl,?_⟩;have H9:=H8.ordT 4 [2,0,3];rw [aP];refine ct (c':=eJ fb { L with dur:=L.fin,parts:=L.parts++[⟨L.fin,0,0⟩] } a' c') H9 (by show 3<6; decide) (by simp only [eJ,ao,length_singleton]; rfl) fun h7 H10=>?_;refine ⟨rfl,cw (a:=a') (c:=c') ?_⟩;rw [← dt] at H10;rw [show ({ L with dur:=L.fin,parts:=L.parts++[⟨L.fin,0,0⟩] }:AF.aU).parts=L.parts++[⟨L.fin,0,0⟩] from rfl,ao,length_singleton];exact H10
     · rw [aX e3,ae,AF.aU.roll3 e1 e2 e3];exact ⟨rfl,cw (H5.ordT 3 [1,2,0])⟩
   · rw [aX e2,ae,AF.aU.roll2 e1 e2];exact ⟨rfl,cw (H3.ordT 3 [1,2,0])⟩
 · rw [AF.aU.synced,am e1] at H0;rw [aX e1,ae,AF.aU.roll1 e1];exact ⟨rfl,H0⟩
theorem ta {ba:Option Addr} {bl bc:Nat} {bs:List Nat} {Q:Value→Heap→Prop} (W:A.WF) (hs:A.steps<1099511627776) (S:L.Small k) (hp0:L.parts≠[])
  (hr:∀ h',aG F h'→cv h' ba (bs.map nv)) (h8:B8 bs) (hl:bs.length=bl) (hlb:bl≤1024) (H:aG (cy lb fb L::bV fb A::F) h)
  (hQ:∀ h',aG (cy lb fb (L.put A bs).2.1::bV fb (L.put A bs).1::F) h'→Q (gJ (L.put A bs).2.2) h') :
  aE prog 88 [.slice ba bl bc] h fun r2 h_2=>
  ∃ (x0a:Option Addr),∃ (x0l:Nat),∃ (x0c:Nat),∃ (x1:Int),r2=.tuple #[.slice x0a x0l x0c,.int .i64 x1]∧
  (bif (x1:Int)!=0 then
   Q (.tuple #[.int .i64 0,.int .i64 x1]) h_2
  else
   aE prog 86 [.pointer (some ⟨lb,0,none⟩)] h_2 fun r3 h_3=>
   DP r3 fun p1=>
   aR (some (⟨lb,0,none⟩:Addr)) fun a0=>
   Ld h_3 (a0.add 0) fun v0=>DP v0 fun x2=>
   aR (some (⟨lb,0,none⟩:Addr)) fun a1=>
   Ld h_3 (a1.add 1) fun v1=>DS v1 fun x3=>
   aR p1 fun a2=>
   Ld h_3 (a2.add 0) fun v2=>DI .i64 v2 fun x4=>
   aE prog 89 [.int .i64 x4] h_3 fun r4 h_4=>
   DS r4 fun x5=>
   (aJ (some (.pointer (some ⟨lb,0,none⟩))) (.pointer (some ⟨lb,0,none⟩)))∧
   (aR (some (⟨lb,0,none⟩:Addr)) fun a3=>
   aJ (some (.pointer (some a0))) (.pointer (some a3)))∧
   (aJ (some (.pointer (some (a0.add 0)))) (.pointer (some (a0.add 0))))∧
   (Ld h_4 (a0.add 0) fun v3=>DP v3 fun x6=>
   aJ (some (.pointer x2)) (.pointer x6))∧
   (aJ (some (.pointer (some ⟨lb,0,none⟩))) (.pointer (some ⟨lb,0,none⟩)))∧
   (aR (some (⟨lb,0,none⟩:Addr)) fun a4=>
   aJ (some (.pointer (some a1))) (.pointer (some a4)))∧
   (aJ (some (.pointer (some (a1.add 1)))) (.pointer (some (a1.add 1))))∧
   (Ld h_4 (a1.add 1) fun v4=>DS v4 fun x7=>
   aJ (some (.string x3)) (.string x7))∧
   (aJ (some (.slice x0a x0l x0c)) (.slice x0a x0l x0c))∧
   aE prog 51 [.pointer x2,.string x3,.string x5,.slice x0a x0l x0c] h_4 fun r5 h_5=>
   DI .i64 r5 fun e1=>
   (bif (e1:Int)!=0 then
    Q (.tuple #[.int .i64 0,.int .i64 e1]) h_5
   else
    aR p1 fun a5=>
    Ld h_5 (a5.add 1) fun v5=>DI .i64 v5 fun x8=>
    aR p1 fun a6=>
    bN h_5 ((a6.add 1).add 0) (.int .i64 (wrap .i64 (x8+1))) fun h_7=>
    aR p1 fun a7=>
    Ld h_7 (a7.add 2) fun v6=>DI .i64 v6 fun x9=>
    aR p1 fun a8=>
    bN h_7 ((a8.add 2).add 0) (.int .i64 (wrap .i64 (x9+(x0l:Int)))) fun h_9=>
    aR (some (⟨lb,0,none⟩:Addr)) fun a9=>
    Ld h_9 (a9.add 4) fun v7=>DI .i64 v7 fun x10=>
    aR (some (⟨lb,0,none⟩:Addr)) fun a10=>
    bN h_9 ((a10.add 4).add 0) (.int .i64 (wrap .i64 (x10+1))) fun h_11=>
    aR (some (⟨lb,0,none⟩:Addr)) fun a11=>
    Ld h_11 (a11.add 4) fun v8=>DI .i64 v8 fun x11=>
    Q (.tuple #[.int .i64 (wrap .i64 (x11 - 1)),.int .i64 0]) h_11)):=by
 obtain ⟨p,hp⟩:∃ p,L.parts.getLast? = some p:=by
  cases hg:L.parts.getLast? with
  | none=>exact absurd (by simpa using hg) hp0
  | some p=>exact ⟨p,rfl⟩
 have hpb:=S.each p (mem_of_getLast? hp)
 have hfew:=S.few
 have hmany:=S.many
 have hfin:=S.fin
 refine (zt H (fun h' hh=>hr h' hh.drop.drop) h8 hl (by omega)).mono ?_
 rintro v h2 ⟨pb,pc,rfl,H2⟩
 refine ⟨some pb,8+bl,pc,0,rfl,?_⟩
 rw [show ((0:Int)!=0)=false from rfl,ab]
 obtain ⟨a,c,H3⟩:=gb (H2.mv 1)
 refine (pI (by omega) H3).mono ?_
 rintro v h3 ⟨rfl,rfl⟩
 rw [bo]
 simp only [aK]
 refine dK H3 rfl ?_
 refine bz H3 rfl ?_
 obtain ⟨b,hb,hla,c0,c1,c2⟩:=kN hp (H3.mv 1)
 rw [hla,aK]
 refine ⟨_,c0,_,rfl,?_⟩
 refine (iQ (by omega) H3).mono ?_
 rintro v h4 ⟨rfl,H4⟩
 rw [aT]
 refine ⟨rfl,rfl,rfl,dK H4 rfl rfl,rfl,rfl,rfl,bz H4 rfl rfl,rfl,?_⟩
 refine (pQ (bs:=bZ bs) W hs S.dir (by rw [AF.iA]; decide) (F:=pt lb (.cells (eJ fb L a c) 152 (0,0))::aQ 158 3 a L.parts.length c (bA L.parts)::aQ 5 1 (some pb) (8+bl) pc ((bZ bs).map nv)::F) (fun h' hh=>aH (hh.mv 2)) (by rw [ck,hl]) (by omega) (H4.mv 3)).mono ?_
 rintro v h5 ⟨rfl,H5⟩
 rw [aL]
 have H6:=H5.ordT 4 [1,2,0]
 by_cases he:(A.append L.dir (AF.cG p.base) (bZ bs)).2=0
 · rw [he,show (((0:Nat):Int)!=0)=false from rfl,ab];have ep:L.put A bs=((A.append L.dir (AF.cG p.base) (bZ bs)).1,{ L with parts:=L.parts.dropLast++[⟨p.base,p.count+1,p.size+(8+bs.length)⟩],fin:=L.fin+1 },.ok L.fin):=by
    unfold AF.aU.put;rw [hp];simp only [he,if_false,ne_eq,not_true]
   rw [ep] at hQ;subst hb;have hsp:=iE hp;have hlen:L.parts.length=L.parts.dropLast.length+1:=by
    have:=congrArg List.length hsp;simpa using this
   generalize hd:L.parts.dropLast=ps at hsp hlen hQ hla c0 c1 c2;obtain ⟨b',hb',hla',d0,d1,d2⟩:=kN hp (H6.mv 1);cases hb';rw [hd] at d0 d1 d2;simp only [aK];refine ⟨_,d1,_,rfl,?_⟩;have w1:wrap .i64 ((p.count:Int)+1)=((p.count+1:Nat):Int):=aN (by omega);have w2:wrap .i64 ((p.size:Int)+((8+bl:Nat):Int))=((p.size+(8+bs.length):Nat):Int):=by rw [IntWalk.i64_in _ (by omega),hl]; omega
   have w3:wrap .i64 ((L.fin:Int)+1)=((L.fin+1:Nat):Int):=aN (by omega);have w4:wrap .i64 (((L.fin+1:Nat):Int) - 1)=(L.fin:Int):=by rw [IntWalk.i64_in _ (by omega)]; omega
   show bN h5 (((b.add (ps.length*3)).add 1).add 0) (.int .i64 (wrap .i64 ((p.count:Int)+1))) _;rw [w1,aP,bm];have H7:=H6.mv 1;rw [hsp] at H7;have hsz:∀ q:AF.eH,(bA (ps++[q])).length=ps.length*3+3:=fun q=>by rw [cX,ao,length_singleton]; omega
   refine cO H7 (j:=ps.length*3+1) (by rw [hsz]; omega) fun h6 H8=>?_;rw [nu] at H8;have g2:bI h6 ((b.add (ps.length*3)).add 2)=some (.int .i64 (p.size:Int)):=by
    rw [bm];exact (aH H8) _ _ (iD (ps:=ps++[⟨p.base,p.count+1,p.size⟩]) (i:=ps.length) (p:=⟨p.base,p.count+1,p.size⟩) (by simp)).2.2
   refine ⟨_,g2,_,rfl,?_⟩;show bN h6 (((b.add (ps.length*3)).add 2).add 0) (.int .i64 (wrap .i64 ((p.size:Int)+((8+bl:Nat):Int)))) _;rw [w2,aP,bm];refine cO H8 (j:=ps.length*3+2) (by rw [hsz]; omega) fun h7 H9=>?_;rw [show (⟨p.base,p.count+1,p.size⟩:AF.eH)=⟨p.base,p.count+1,p.size⟩ from rfl,ma] at H9;have H10:=H9.mv 1;refine bM (x:=(L.fin:Int)) H10 rfl ?_;rw [w3,aP];refine ct (c':=eJ fb { L with parts:=ps++[⟨p.base,p.count+1,p.size+(8+bs.length)⟩],fin:=L.fin+1 } (some b) c) H10 (by show 4<6; decide) (by
    have ec:(ps++[(⟨p.base,p.count+1,p.size+(8+bs.length)⟩:AF.eH)]).length=L.parts.length:=by rw [hlen]; simp
    show _=#[aM fb,.string L.dir,.int .i64 (L.size:Int),.slice (some b) (ps++[(⟨p.base,p.count+1,p.size+(8+bs.length)⟩:AF.eH)]).length c,.int .i64 ((L.fin+1:Nat):Int),.int .i64 (L.dur:Int)];rw [ec]
    rfl) fun h8' H11=>?_
   refine bM (x:=((L.fin+1:Nat):Int)) H11 rfl ?_;rw [w4];refine hQ _ (cw (a:=some b) (c:=c) ?_);rw [show (ps++[p]).length=(ps++[(⟨p.base,p.count+1,p.size+(8+bs.length)⟩:AF.eH)]).length by simp] at H11;exact H11
 · rw [aX he,ae];have ep:L.put A bs=((A.append L.dir (AF.cG p.base) (bZ bs)).1,L,.error (A.append L.dir (AF.cG p.base) (bZ bs)).2):=by
    unfold AF.aU.put;rw [hp];simp only [he,if_true,ne_eq,not_false_eq_true]
   rw [ep] at hQ;exact hQ _ (cw H6)
end
namespace AF
variable {L:aU} {A:FS} {k:Nat} {b:List Nat}
theorem aU.append_roll (hl:¬ 1024<b.length) (hf:L.full=true) (he:(L.roll A).2.2≠0):L.append A b=((L.roll A).1,(L.roll A).2.1,.error (L.roll A).2.2):=by
 unfold aU.append
 simp only [hl,hf,he,if_true,if_false,ne_eq,not_false_eq_true]
theorem aU.append_on (hl:¬ 1024<b.length) (hf:L.full=true) (he:(L.roll A).2.2=0):L.append A b=(L.roll A).2.1.put (L.roll A).1 b:=by
 unfold aU.append
 simp only [hl,hf,he,if_true,if_false,ne_eq,not_true]
theorem aU.append_put (hl:¬ 1024<b.length) (hf:L.full=false):L.append A b=L.put A b:=by
 unfold aU.append
 simp only [hl,hf,if_false,Bool.false_eq_true]
theorem aU.roll_parts (he:(L.roll A).2.2=0):(L.roll A).2.1.parts≠[]:=by
 by_cases h1:(L.sync A).2=0
 · by_cases h2:((L.sync A).1.create L.dir (cG L.fin)).2=0
   · by_cases h3:(((L.sync A).1.create L.dir (cG L.fin)).1.syncDir L.dir).2=0
     · rw [aU.roll4 h1 h2 h3];simp
     · rw [aU.roll3 h1 h2 h3] at he;exact absurd he h3
   · rw [aU.roll2 h1 h2] at he;exact absurd he h2
 · rw [aU.roll1 h1] at he;exact absurd he h1
structure aU.Up (L:aU):Prop where
 ends:∀ p∈L.parts,p.base+p.count≤L.fin
 rise:L.parts.Pairwise fun p q=>p.base+p.count≤q.base+q.count
theorem aU.append_keeps (W:A.WF) (S:L.Small k) (hk:k+1<100000) (h8:B8 b):(L.append A b).1.WF∧(L.append A b).1.steps≤A.steps+4∧(L.append A b).2.1.Small (k+2):=by
 have R:=aU.roll_keeps (L:=L) (A:=A) W S (by omega)
 unfold aU.append
 split
 · exact ⟨W,by dsimp only; omega,S.grow (by omega) (by omega)⟩
 · rename_i hl;split
   · simp only;split
     · exact ⟨R.1,by dsimp only; omega,R.2.2.grow (by omega) (by omega)⟩
     · have P:=aU.put_keeps (A:=(L.roll A).1) R.1 R.2.2 (by omega) h8 (by omega);exact ⟨P.1,by omega,P.2.2⟩
   · have P:=aU.put_keeps (A:=A) W S (by omega) h8 (by omega);exact ⟨P.1,by omega,P.2.2.grow (by omega) (by omega)⟩
end AF
section
variable {lb fb:Nat} {L:AF.aU} {A:AF.FS} {F:List aF} {h:Heap} {k:Nat}
theorem uf {ba:Option Addr} {bl bc:Nat} {bs:List Nat} (W:A.WF) (hs:A.steps+4<1099511627776) (S:L.Small k) (hk:k+1<100000)
  (hr:∀ h',aG F h'→cv h' ba (bs.map nv)) (h8:B8 bs) (hl:bs.length=bl) (H:aG (cy lb fb L::bV fb A::F) h) :
  aE prog 38 [aM lb,.slice ba bl bc] h fun v h'=>v=gJ (L.append A bs).2.2∧aG (cy lb fb (L.append A bs).2.1::bV fb (L.append A bs).1::F) h':=by
 apply BK.ap
 unfold Gw
 rw [show (some (⟨lb,0,none⟩:Addr)).isNone=false from rfl,ab]
 by_cases hbig:1024<bl
 · rw [ah (show ((bl:Int)>1024) by omega),ae];have e:L.append A bs=(A,L,.error 100):=by
    unfold AF.aU.append;rw [an (by omega)]
   rw [e];exact ⟨rfl,H⟩
 · rw [af (show ¬ ((bl:Int)>1024) by omega),ab];obtain ⟨a,c,H1⟩:=gb H;have hfew:=S.few;have hmany:=S.many;have nl:¬ 1024<bs.length:=by omega
   refine (pI (by omega) H1).mono ?_;rintro v h0 ⟨rfl,rfl⟩;rw [bo];have R:=AF.aU.roll_keeps (L:=L) (A:=A) W S (by omega);have rolled:∀ (hf:L.full=true) (e0:(L.roll A).2.2=0),∀ h',aG (cy lb fb (L.roll A).2.1::bV fb (L.roll A).1::F) h'→_:=fun hf e0 h' H'=>
    ta (h:=h') (Q:=fun v h'=>v=gJ (L.append A bs).2.2∧aG (cy lb fb (L.append A bs).2.1::bV fb (L.append A bs).1::F) h') (bc:=bc) R.1 (by omega) R.2.2 (AF.aU.roll_parts e0) hr h8 hl (by omega) H' (fun h2 H2=>by
     rw [AF.aU.append_on nl hf e0];exact ⟨rfl,H2⟩)
   cases hp:L.parts.getLast? with
   | none=>
     have h00:L.parts=[]:=by simpa using hp
     have hf:L.full=true:=by unfold AF.aU.full; rw [hp]
     have e1:qQ a L.parts.length=none:=by rw [h00]; rfl
     rw [e1,show ((none:Option Addr)).isNone=true from rfl,ae];refine (tW W (by omega) S (by omega) H).mono ?_;rintro v h2 ⟨rfl,H2⟩;rw [aL];by_cases e0:(L.roll A).2.2=0
     · rw [e0,show (((0:Nat):Int)!=0)=false from rfl,ab];exact rolled hf e0 h2 H2
     · rw [aX e0,ae,AF.aU.append_roll nl hf e0];exact ⟨rfl,H2⟩
   | some p=>
     obtain ⟨b,hb,hla,c0,c1,c2⟩:=kN hp (H1.mv 1);rw [hla,show ((some (b.add (L.parts.dropLast.length*3)))).isNone=false from rfl,ab];simp only [aK];refine ⟨_,c2,_,rfl,?_⟩;refine bM (x:=(L.size:Int)) H1 rfl ?_;by_cases hsz:L.size≤p.size
     · have hf:L.full=true:=by unfold AF.aU.full; rw [hp]; exact ah hsz
       rw [ah (show ((p.size:Int)≥(L.size:Int)) by omega),ae];refine (tW W (by omega) S (by omega) H).mono ?_;rintro v h2 ⟨rfl,H2⟩;rw [aL];by_cases e0:(L.roll A).2.2=0
       · rw [e0,show (((0:Nat):Int)!=0)=false from rfl,ab];exact rolled hf e0 h2 H2
       · rw [aX e0,ae,AF.aU.append_roll nl hf e0];exact ⟨rfl,H2⟩
     · have hf:L.full=false:=by unfold AF.aU.full; rw [hp]; exact af hsz
       rw [af (show ¬ ((p.size:Int)≥(L.size:Int)) by omega),ab];exact ta (Q:=fun v h'=>v=gJ (L.append A bs).2.2∧aG (cy lb fb (L.append A bs).2.1::bV fb (L.append A bs).1::F) h') (bc:=bc) W (by omega) S (by intro e; rw [e] at hp; cases hp) hr h8 hl (by omega) H (fun h2 H2=>by
        rw [AF.aU.append_put nl hf];exact ⟨rfl,H2⟩)
theorem pT (H:aG (cy lb fb L::F) h):aE prog 43 [aM lb] h fun v h'=>v=.int .i64 (L.dur:Int)∧h'=h:=by
 apply BH.ap
 unfold Gt
 rw [show (some (⟨lb,0,none⟩:Addr)).isNone=false from rfl,ab]
 obtain ⟨a,c,H1⟩:=gb H
 simp only [aK]
 exact bM (x:=(L.dur:Int)) H1 rfl ⟨rfl,by trivial⟩
theorem zq {n:Nat} {f:Fn} {fp fc:Array Value} (p:Nat→Bool) (hn:n<4611686018427387904)
  (hf:∀ i,i<n→du prog (.func f fp fc) [.int .i64 (i:Int)] h fun r h'=>r=.bool (p i)∧h'=h) (hm:∀ i j,i≤j→j<n→p i=true→p j=true) :
  aE prog 91 [.int .i64 (n:Int),.func f fp fc] h fun v h'=>h'=h∧∃ k,k≤n∧v=.int .i64 (k:Int)∧(∀ i,i<k→p i=false)∧∀ i,k≤i→i<n→p i=true:=by
 apply Bd.ap
 unfold FZ
 refine ⟨fun st hh=>hh=h∧∃ i j:Nat,st=((i:Int),(j:Int))∧i≤j∧j≤n∧(∀ x,x<i→p x=false)∧∀ x,j≤x→x<n→p x=true,fun st _=>(st.2 - st.1).toNat,
  ⟨rfl,0,n,rfl,aw _,ax _,fun x hx=>by omega,fun x hx hx2=>by omega⟩,?_⟩
 rintro st h1 ⟨rfl,i,j,rfl,hij,hjn,hlo,hhi⟩
 by_cases hlt:i<j
 · rw [ah (show ((i:Int)<(j:Int)) by omega),ae];have w:wrap .i64 (j6 .u64 (wrap .u64 (wrap .i64 ((i:Int)+(j:Int)))) 1)=(((i+j) / 2:Nat):Int):=by
    rw [show ((i:Int)+(j:Int))=((i+j:Nat):Int) by omega,IntWalk.i64_in ((i+j:Nat):Int) (by omega),IntWalk.u64_in ((i+j:Nat):Int) (by omega),show (1:Int)=((1:Nat):Int) from rfl,iz .u64 (i+j) 1 (by decide),Nat.pow_one,IntWalk.i64_in _ (by omega)]
   dsimp only;rw [w];refine ⟨by decide,(hf ((i+j) / 2) (by omega)).mono ?_⟩;rintro r h2 ⟨rfl,rfl⟩;rw [bO]
   cases hp:p ((i+j) / 2) with
   | false=>
     rw [aC,ae,aN (by omega)];refine ⟨⟨rfl,(i+j) / 2+1,j,rfl,by omega,hjn,fun x hx=>?_,hhi⟩,by omega⟩
     cases hx2:p x with
     | false=>rfl
     | true=>rw [hm x ((i+j) / 2) (by omega) (by omega) hx2] at hp; cases hp
   | true=>
     rw [aB,ab];refine ⟨⟨rfl,i,(i+j) / 2,rfl,by omega,by omega,hlo,fun x hx hx2=>hm _ x hx hx2 hp⟩,by omega⟩
 · rw [af (by omega),ab];have:i=j:=by omega
   subst this;exact ⟨rfl,i,hjn,rfl,hlo,hhi⟩
end
namespace AF
def aU.readGo (A:FS) (dir:ByteArray) (lo hi:Nat):List eH→List (List Nat)→Except Nat (List (List Nat))
 | [],out=>.ok out
 | p::ps,out=>if hi≤p.base∨lo=hi then .ok out else if p.count=0 then aU.readGo A dir lo hi ps out else
   match A.read dir (cG p.base) with
   | .error e=>.error e
   | .ok bs=>if (bp bs).length<p.count then .error 70 else aU.readGo A dir lo hi ps (out++((bp bs).take (min (hi - p.base) p.count)).drop (lo - p.base))
def aU.from_ (L:aU) (lo:Nat):Nat:=L.parts.findIdx fun p=>decide (lo<p.base+p.count)
def aU.read (L:aU) (A:FS) (lo hi:Int):Except Nat (List (List Nat)):=
 if lo<0∨hi<lo∨(L.fin:Int)<hi then .error 101 else aU.readGo A L.dir lo.toNat hi.toNat (L.parts.drop (L.from_ lo.toNat)) []
end AF
theorem qg {h:Heap} {F:List aF} {b:Nat} {c:Array Value} {e:TypeId} {fr:Nat×Nat} {x:Nat} {K:Option Addr→Prop} (H:aG (pt b (.cells c e fr)::F) h) (hv:c[0]? = some (aM x)) (hK:K (some ⟨x,0,none⟩)) :
 Ld h ⟨b,0,none⟩ fun v=>DP v K:=gd (v:=aM x) H.get hv ⟨_,rfl,hK⟩
theorem zi {h:Heap} {F:List aF} {b:Nat} {c:Array Value} {e:TypeId} {fr:Nat×Nat} {k:IntKind} {x:Int} {K:Int→Prop} (H:aG (pt b (.cells c e fr)::F) h) (hv:c[0]? = some (.int k x)) (hK:K x) :
 Ld h ⟨b,0,none⟩ fun v=>DI k v K:=gd (v:=.int k x) H.get hv ⟨_,rfl,hK⟩
theorem nX {h:Heap} {a:Addr} {k:IntKind} {x:Int} {K:Int→Prop} (hv:bI h a=some (.int k x)) (hK:K x):Ld h a fun v=>DI k v K:=⟨_,hv,_,rfl,hK⟩
theorem cv.subN {h:Heap} {a:Option Addr} {xs:List Value} (H:cv h a xs) (lo n mx sz:Nat) (hn:mx=lo→n=0):cv h (fG a lo mx sz) ((xs.drop (lo*sz)).take n):=by
 unfold fG
 split
 · rename_i e;rw [hn e,take_zero]
   cases a with
   | none=>rfl
   | some a=>intro j v hv; cases hv
 · cases a with
   | none=>
     have:xs=[]:=H;subst this;simp [cv]
   | some a=>
     intro j v hv;rw [getElem?_take] at hv;split at hv
     · rw [getElem?_drop] at hv;have:=H _ _ hv;show bI h ((a.add (lo*sz)).add j)=some v;rw [bm];exact this
     · cases hv
theorem te (ps:List AF.eH):∀ k:Nat,(bA ps).drop (k*3)=bA (ps.drop k):=by
 induction ps with
 | nil=>intro k; simp [bA]
 | cons p ps ih=>
   intro k
   cases k with
   | zero=>rw [Nat.zero_mul,drop_zero,drop_zero]
   | succ k=>
     rw [show (k+1)*3=k*3+3 by omega,ki,drop_succ_cons];exact ih k
theorem oh {a:Option Addr} {ps:List AF.eH} {l i:Nat} {p:AF.eH} {h:Heap} {K:Addr→Prop} (H:cv h a (bA ps)) (hl:ps.length=l) (hi:ps[i]? = some p)
  (hK:∀ b,bI h (b.add 0)=some (.int .i64 (p.base:Int))→bI h (b.add 1)=some (.int .i64 (p.count:Int))→bI h (b.add 2)=some (.int .i64 (p.size:Int))→K b):aO a l (i:Int) 3 K:=by
 obtain ⟨g0,g1,g2⟩:=iD hi
 obtain ⟨b,hb,c0⟩:=H.nilOr g0
 have:=(ak.1 hi).1
 subst hb
 refine ⟨b,rfl,by omega,by omega,?_⟩
 rw [Int.toNat_natCast]
 refine hK _ ?_ ?_ ?_
 · rw [bm]; exact H _ _ g0
 · rw [bm]; exact H _ _ g1
 · rw [bm]; exact H _ _ g2
theorem aG.pickSub {α β:Type} {E:α→β→aF} {xs:List α} {ys:List β} {F:List aF} {h:Heap} (hl:xs.length=ys.length) (lo n:Nat) (H:aG (zipWith E xs ys++F) h) :
  aG (zipWith E ((xs.drop lo).take n) ((ys.drop lo).take n)++F) h:=by
 have e:zipWith E ((xs.drop lo).take n) ((ys.drop lo).take n)=((zipWith E xs ys).drop lo).take n:=by
  rw [← List.take_zipWith,← List.drop_zipWith]
 rw [e]
 have e2:zipWith E xs ys=(zipWith E xs ys).take lo++(((zipWith E xs ys).drop lo).take n++((zipWith E xs ys).drop lo).drop n):=by
  rw [take_append_drop,take_append_drop]
 rw [e2] at H
 generalize (zipWith E xs ys).take lo=L1 at H
 generalize ((zipWith E xs ys).drop lo).take n=L2 at H ⊢
 generalize ((zipWith E xs ys).drop lo).drop n=L3 at H
 rw [append_assoc] at H
 have H2:aG ((L2++L3)++F) h:=H.shut.drop
 rw [append_assoc] at H2
 have H3:aG (bP L2::(L3++F)) h:=H2.shut
 have H4:aG (bP L3::F++[bP L2]) h:=by
  obtain ⟨r,hr,hs⟩:=H3;have:ie ([bP L2]++(L3++F)) r:=hr;have h2:=jq (bQ.1 this);obtain ⟨r1,r2,hd,rfl,⟨q1,q2,hd2,rfl,h3,h4⟩,h5⟩:nQ (nQ (ie L3) (ie F)) (ie [bP L2]) r:=cY (fun _ h=>bQ.1 h) (fun _ h=>h) h2;refine ⟨_,?_,hs⟩;show ie ((bP L3::F)++[bP L2]) _;exact bQ.2 ⟨_,r2,hd,rfl,⟨q1,q2,hd2,rfl,h3,h4⟩,h5⟩
 have H5:aG (F++[bP L2]) h:=H4.drop
 obtain ⟨r,hr,hs⟩:=H5
 have h6:=jq (bQ.1 hr)
 have H7:aG (bP L2::F) h:=⟨r,cY (fun r h=>by
  obtain ⟨r1,r2,hd,rfl,h1,h2⟩:=h;have e:cz r1 r2=r1:=by
   funext b;unfold cz
   cases hb:r1 b with
   | some x=>rfl
   | none=>exact h2 b
  rw [e];exact h1) (fun _ h=>h) h6,hs⟩
 exact H7.open
section
variable {lb fb:Nat} {L:AF.aU} {A:AF.FS} {F:List aF} {h:Heap} {k:Nat}
theorem zp {b0 b1:Nat} {e0 e1:TypeId} {i lo:Nat} {p:AF.eH} {a:Option Addr} {c:Nat} (S:L.Small k) (hp:L.parts[i]? = some p)
  (H:aG (pt b0 (.cells #[aM lb] e0 (0,0))::pt b1 (.cells #[.int .i64 (lo:Int)] e1 (0,0))::pt lb (.cells (eJ fb L a c) 152 (0,0))::aQ 158 3 a L.parts.length c (bA L.parts)::F) h) :
  aE prog 92 [.int .i64 (i:Int),aM b0,aM b1] h fun v h'=>v=.bool (decide (lo<p.base+p.count))∧h'=h:=by
 refine Bc (c0:=⟨b0,0,none⟩) (c1:=⟨b1,0,none⟩) ?_
 unfold D6
 have hpe:=S.each p (aj hp)
 have hfew:=S.few
 have hr:=aH (H.mv 3)
 refine qg H rfl ?_
 rw [aK]
 refine bH (a:=a) (l:=L.parts.length) (m:=c) (H.mv 2) rfl ?_
 refine oh hr rfl hp fun b d0 d1 d2=>nX d0 ?_
 refine qg H rfl ?_
 rw [aK]
 refine bH (a:=a) (l:=L.parts.length) (m:=c) (H.mv 2) rfl ?_
 refine oh hr rfl hp fun b d0 d1 d2=>nX d1 ?_
 refine zi (x:=(lo:Int)) (H.mv 1) rfl ?_
 rw [IntWalk.i64_in _ (by omega)]
 refine ⟨?_,rfl⟩
 congr 1
 by_cases hlt:lo<p.base+p.count
 · rw [ah hlt,ah (by omega)]
 · rw [af hlt,af (by omega)]
end
open Frame (bZ ck dz aY)
theorem AI {A:aF} {L K M:List aF} {h:Heap} (H:aG (A::(L++bP K::M)) h):aG (A::((L++K)++M)) h:=by
 obtain ⟨r,hr,hs⟩:=H
 refine ⟨r,cY (fun _ h=>h) (fun q hq=>?_) hr,hs⟩
 have h1:nQ (ie L) (nQ (ie K) (ie M)) q:=bQ.1 hq
 have h2:=jJ h1
 exact bQ.2 (cY (fun _ h=>bQ.2 h) (fun _ h=>h) h2)
theorem xf {ra oa:Option Addr} {rl rc ol oc:Nat} {recs out:List (List Nat)} {G:List aF} {h:Heap} {K:Value→Heap→Prop} (H:aG (fR qi 30 ra rl rc recs::fR qi 30 oa ol oc out::G) h) (lo z:Nat) (hlo:lo≤z) (hz:z≤recs.length)
  (hb:(ol+(z - lo))*24≤140737488355328) (hK:∀ a' c' h',aG (fR qi 30 a' (ol+(z - lo)) c' (out++(recs.take z).drop lo)::G) h'→K (.slice a' (ol+(z - lo)) c') h') :
  bB prog (append_ #[102,102] 102 #[.slice oa ol oc,.slice (fG ra lo z 1) (z - lo) (z - lo)]) h K:=by
 obtain ⟨rvs,hrl,H2⟩:=im H
 have hr:=(aH H2).sub lo (z - lo) z (by omega)
 have hlen:((rvs.drop lo).take (z - lo)).length=(z - lo)*1:=by
  rw [au,length_drop,hrl];omega
 have H3:=aG.pickSub hrl.symm lo (z - lo) H2.drop
 have H4:aG (fR qi 30 oa ol oc out::bP (zipWith qi ((recs.drop lo).take (z - lo)) ((rvs.drop lo).take (z - lo)))::G) h:=H3.shut.mv 1
 obtain ⟨ovs,hol,H5⟩:=im H4
 have h1:∀ u∈(rvs.drop lo).take (z - lo),u.oneCell'=true:=by
  intro u hu;obtain ⟨j,hj⟩:=getElem?_of_mem hu;obtain ⟨x,hx⟩:∃ x,((recs.drop lo).take (z - lo))[j]? = some x:=by
   have:=(ak.1 hj).1;exact ⟨_,ai (by rw [hlen] at this; rw [au,length_drop]; omega)⟩
  obtain ⟨r,H6⟩:=aG.pick H3 (A:=qi x u) (k:=j) (by rw [List.getElem?_append_left (by have:=(ak.1 hj).1; have h2:=(ak.1 hx).1; rw [length_zipWith]; omega),getElem?_zipWith,hx,hj]);obtain ⟨a,l,c,rfl,_⟩:=sC H6
  rfl
 refine gr In CR C0 H5 (bJ hr hlen) h1 hb fun a' c' h' _ H6=>hK a' c' h' ?_
 have H7:=AI H6
 rw [← zipWith_append hol.symm] at H7
 have e:(recs.take z).drop lo=(recs.drop lo).take (z - lo):=List.drop_take
 rw [e]
 refine mL ?_ H7
 rw [ao,ao,hol,hlen,au,length_drop]
 omega
def sq (lb fb:Nat) (L:AF.aU) (A:AF.FS) (r:Except Nat (List (List Nat))) (F:List aF) (v:Value) (h':Heap):Prop:=
 (∃ (out:List (List Nat)) (a:Option Addr) (c:Nat),r=.ok out∧v=.tuple #[.slice a out.length c,.int .i64 0]∧aG (fR qi 30 a out.length c out::cy lb fb L::bV fb A::F) h')∨
 (∃ e:Nat,r=.error e∧e≠0∧v=.tuple #[.slice none 0 0,.int .i64 (e:Int)]∧aG (cy lb fb L::bV fb A::F) h')
theorem gX {bs:List Nat} (h8:B8 bs):8*(bp bs).length≤bs.length:=by
 have h1:(bp bs).length≤(Frame.ci bs).length:=(List.takeWhile_sublist _).length_le
 have h2:aY (Frame.ci bs)≤bs.length:=by
  have:∀ (n:Nat) (x:List Nat),x.length≤n→B8 x→aY (Frame.ci x)≤x.length:=by
   intro n
   induction n with
   | zero=>
     intro x hx h8;have:x=[]:=eq_nil_of_length_eq_zero (by omega);subst this;rw [Frame.qq];exact ax _
   | succ n ih=>
     intro x hx h8;rw [Frame.fK]
     cases hf:Frame.cq x with
     | none=>exact aw _
     | some y=>
       obtain ⟨_,_,h3,_,_,_⟩:=Frame.eK h8 hf;have:=ih (x.drop (8+y.length)) (by rw [length_drop]; omega) (h8.drop _);rw [length_drop] at this;show (8+y.length)+aY (Frame.ci (x.drop (8+y.length)))≤_;omega
  exact this _ bs (ax _) h8
 have h3:=jK bs h8 (Frame.ci bs).length (Frame.ci bs) rfl h2
 omega
section
variable {lb fb:Nat} {L:AF.aU} {A:AF.FS} {F:List aF} {h:Heap} {k:Nat}
theorem AN {lo n:Nat} (hk:n≤L.parts.length) (h1:∀ i,i<n→∀ p,L.parts[i]? = some p→¬ lo<p.base+p.count) (h2:∀ i,n≤i→∀ p,L.parts[i]? = some p→lo<p.base+p.count):L.from_ lo=n:=by
 unfold AF.aU.from_
 by_cases hn:n<L.parts.length
 · rw [List.findIdx_eq hn];refine ⟨ah (h2 n (ax _) _ (ai hn)),fun j hj=>af (h1 j hj _ (ai (by omega)))⟩
 · have:n=L.parts.length:=by omega
   subst this;rw [List.findIdx_eq_length];intro p hp;obtain ⟨i,hi⟩:=getElem?_of_mem hp;have:=h1 i (ak.1 hi).1 p hi;simpa using this
theorem zL {lo hi:Int} (W:A.WF) (S:L.Small k) (U:L.Up) (H:aG (cy lb fb L::bV fb A::F) h) :
  aE prog 42 [aM lb,.int .i64 lo,.int .i64 hi] h (sq lb fb L A (L.read A lo hi) F):=by
 apply BI.ap
 unfold Gu
 obtain ⟨a,c,H0⟩:=gb H
 refine aW H0 fun b0 h1 H1=>aW H1 fun b1 h2 H2=>?_
 have hfew:=S.few
 have hmany:=S.many
 have hfin:=S.fin
 refine qg (x:=lb) (H2.mv 1) rfl ?_
 rw [show (some (⟨lb,0,none⟩:Addr)).isNone=false from rfl,ab]
 refine zi (x:=lo) H2 rfl ?_
 have bad:lo<0∨hi<lo∨(L.fin:Int)<hi→sq lb fb L A (L.read A lo hi) F (.tuple #[.slice none 0 0,.int .i64 101]) h2:=by
  intro hb;refine .inr ⟨101,?_,by decide,rfl,cw (H2.ordT 5 [2,3,4])⟩;unfold AF.aU.read;rw [an hb]
 by_cases h1:lo<0
 · rw [ah h1,ae];exact bad (.inl h1)
 rw [af h1,ab]
 refine zi (x:=lo) H2 rfl ?_
 by_cases h2':hi<lo
 · rw [ah h2',ae];exact bad (.inr (.inl h2'))
 rw [af h2',ab]
 refine qg (x:=lb) (H2.mv 1) rfl ?_
 simp only [aK]
 refine bM (x:=(L.fin:Int)) (H2.mv 2) rfl ?_
 by_cases h3:(L.fin:Int)<hi
 · rw [ah (show hi>(L.fin:Int) from h3),ae];exact bad (.inr (.inr h3))
 rw [af (show ¬ hi>(L.fin:Int) from h3),ab]
 obtain ⟨lo,rfl⟩:∃ n:Nat,lo=(n:Int):=⟨lo.toNat,by omega⟩
 obtain ⟨hi,rfl⟩:∃ n:Nat,hi=(n:Int):=⟨hi.toNat,by omega⟩
 have eread:L.read A (lo:Int) (hi:Int)=AF.aU.readGo A L.dir lo hi (L.parts.drop (L.from_ lo)) []:=by
  unfold AF.aU.read;rw [am (by rintro (h | h | h) <;> omega),Int.toNat_natCast,Int.toNat_natCast]
 clear bad
 refine qg (x:=lb) (H2.mv 1) rfl ?_
 rw [aK]
 refine bH (a:=a) (l:=L.parts.length) (m:=c) (H2.mv 2) rfl ?_
 let p:Nat→Bool:=fun i=>match L.parts[i]? with
  | some q=>decide (lo<q.base+q.count)
  | none=>false
 have hord:=H2.ordT 5 [1,0,2,3,4]
 refine (zq (h:=h2) p (n:=L.parts.length) (by omega) ?_ ?_).mono ?_
 · intro i hi;obtain ⟨q,hq⟩:∃ q,L.parts[i]? = some q:=⟨_,ai hi⟩
   refine kE (first:=#[]) (cap:=#[aM b0,aM b1]) ?_;refine (zp (fb:=fb) (a:=a) (c:=c) S hq hord).mono ?_;rintro v h3 ⟨rfl,rfl⟩;refine ⟨?_,rfl⟩;show Value.bool _=Value.bool (match L.parts[i]? with
    | some q=>decide (lo<q.base+q.count)
    | none=>false)
   rw [hq]
 · intro i j hij hj hpi;obtain ⟨q,hq⟩:∃ q,L.parts[j]? = some q:=⟨_,ai hj⟩
   obtain ⟨q',hq'⟩:∃ q,L.parts[i]? = some q:=⟨_,ai (by omega)⟩
   simp only [p,hq'] at hpi;simp only [p,hq]
   rcases Nat.lt_or_eq_of_le hij with hlt | rfl
   · have hi':=(ak.1 hq')
     have hj':=(ak.1 hq)
     have:=List.pairwise_iff_getElem.1 U.rise i j hi'.1 hj'.1 hlt;rw [hi'.2,hj'.2] at this;have:=of_decide_eq_true hpi;exact ah (by omega)
   · rw [hq] at hq';cases hq';exact hpi
 rintro v h3 ⟨rfl,kk,hkk,rfl,hfalse,htrue⟩
 rw [aL]
 have efrom:L.from_ lo=kk:=AN hkk (fun i hi q hq=>by
  have:=hfalse i hi;simp only [p,hq] at this;exact of_decide_eq_false this) (fun i hi q hq=>by
  have:=htrue i hi (ak.1 hq).1;simp only [p,hq] at this;exact of_decide_eq_true this)
 rw [efrom] at eread
 have hends:∀ q∈L.parts.drop kk,lo<q.base+q.count:=by
  intro q hq;obtain ⟨i,hi⟩:=getElem?_of_mem hq;rw [getElem?_drop] at hi;have:=htrue (kk+i) (by omega) (ak.1 hi).1;simp only [p,hi] at this;exact of_decide_eq_true this
 clear hfalse htrue efrom
 clear_value p
 refine qg (x:=lb) (H2.mv 1) rfl ?_
 rw [aK]
 refine bH (a:=a) (l:=L.parts.length) (m:=c) (H2.mv 2) rfl ?_
 have hlc:=(dA (H2.mv 3)).2.1
 refine dI hkk hlc (ax _) ?_
 have rdP:∀ h',cv h' a (bA L.parts)→cv h' (fG a kk c 3) (bA (L.parts.drop kk)):=by
  intro h' hr;have:=hr.subN kk ((L.parts.length - kk)*3) c 3 (by omega);rw [te,av (by rw [cX,length_drop]; omega)] at this;exact this
 generalize hps:L.parts.drop kk=ps at eread hends rdP
 have hpl:ps.length=L.parts.length - kk:=by rw [← hps,length_drop]
 have hpe:∀ q∈ps,q.base≤k*16777216∧q.count≤k*16777216∧q.size≤k*16777216:=fun q hq=>S.each q (List.drop_subset kk _ (hps▸hq))
 rw [eread]
 have K0:=(jv qi 30 hord).mv 5
 refine ⟨fun st hh=>∃ (i:Nat) (out:List (List Nat)) (oa:Option Addr) (oc:Nat),st=(⟨oa,out.length,oc⟩,(i:Int))∧i≤ps.length∧out.length≤i*2097152∧AF.aU.readGo A L.dir lo hi ps []=AF.aU.readGo A L.dir lo hi (ps.drop i) out∧
   aG (bV fb A::fR qi 30 oa out.length oc out::pt b0 (.cells #[aM lb] 90 (0,0))::pt b1 (.cells #[.int .i64 (lo:Int)] 2 (0,0))::pt lb (.cells (eJ fb L a c) 152 (0,0))::aQ 158 3 a L.parts.length c (bA L.parts)::F) hh,
  fun st _=>((ps.length:Int) - st.2).toNat,⟨0,[],none,0,rfl,aw _,aw _,rfl,K0⟩,?_⟩
 rintro st h4 ⟨i,out,oa,oc,rfl,hi',hol,heq,H4⟩
 rw [heq]
 dsimp only
 have fin:∀ h',aG (bV fb A::fR qi 30 oa out.length oc out::pt b0 (.cells #[aM lb] 90 (0,0))::pt b1 (.cells #[.int .i64 (lo:Int)] 2 (0,0))::pt lb (.cells (eJ fb L a c) 152 (0,0))::aQ 158 3 a L.parts.length c (bA L.parts)::F) h'→
   AF.aU.readGo A L.dir lo hi (ps.drop i) out=.ok out→sq lb fb L A (AF.aU.readGo A L.dir lo hi (ps.drop i) out) F (.tuple #[.slice oa out.length oc,.int .i64 0]) h':=by
  intro h' H' e;exact .inl ⟨out,oa,oc,e,rfl,(cw (H'.ordT 6 [4,5,1,0])).mv 1⟩
 rw [← hpl]
 by_cases hlt:i<ps.length
 · rw [ah (show ((i:Int)<(ps.length:Int)) by omega),ae];obtain ⟨q,hq⟩:∃ q,ps[i]? = some q:=⟨_,ai hlt⟩
   have hqm:=aj hq;have hqe:=hpe q hqm;have hqlo:=hends q hqm;have hdrop:ps.drop i=q::ps.drop (i+1):=by
    have h5:=(ak.1 hq)
    rw [drop_eq_getElem_cons h5.1,h5.2]
   refine oh (rdP h4 (aH (H4.mv 5))) rfl hq fun ba d0 d1 d2=>⟨_,d0,_,d1,_,d2,_,_,_,rfl,?_⟩
   refine aW H4 fun b2 h5 H5=>?_;refine ct (c':=#[.int .i64 (q.base:Int),.int .i64 0,.int .i64 0]) H5 (by show 0<3; decide) rfl fun h6 H6=>?_;refine ct (c':=#[.int .i64 (q.base:Int),.int .i64 (q.count:Int),.int .i64 0]) H6 (by show 1<3; decide) rfl fun h7 H7=>?_;refine ct (c':=#[.int .i64 (q.base:Int),.int .i64 (q.count:Int),.int .i64 (q.size:Int)]) H7 (by show 2<3; decide) rfl fun h8 H8=>?_;refine bM (x:=(q.base:Int)) H8 rfl ?_;by_cases c1:hi≤q.base
   · rw [ah (show ((q.base:Int)≥(hi:Int)) by omega),ae];refine fin h8 H8.drop ?_;rw [hdrop,AF.aU.readGo,an (.inl c1)]
   rw [af (show ¬ ((q.base:Int)≥(hi:Int)) by omega),ab];refine zi (x:=(lo:Int)) (H8.mv 4) rfl ?_;by_cases c2:lo=hi
   · rw [show (((lo:Nat):Int)==(hi:Int))=true by rw [c2]; exact beq_self_eq_true _,ae];refine fin h8 H8.drop ?_;rw [hdrop,AF.aU.readGo,an (.inr c2)]
   rw [show (((lo:Nat):Int)==(hi:Int))=false by rw [beq_eq_false_iff_ne]; omega,ab];refine bM (x:=(q.count:Int)) H8 rfl ?_;have wi:wrap .i64 ((i:Int)+1)=((i+1:Nat):Int):=aN (by omega);by_cases c3:q.count=0
   · rw [show (((q.count:Nat):Int)==0)=true by rw [c3]; rfl,ae,wi];refine ⟨⟨i+1,out,oa,oc,rfl,by omega,Nat.le_trans hol (Nat.mul_le_mul_right _ (Nat.le_succ i)),?_,H8.drop⟩,by omega⟩;rw [hdrop,AF.aU.readGo,am (by rintro (h | h) <;> omega),an c3]
   rw [show (((q.count:Nat):Int)==0)=false by rw [beq_eq_false_iff_ne]; omega,ab];refine qg (x:=lb) (H8.mv 3) rfl ?_;rw [aK];refine dK (x:=fb) (H8.mv 5) rfl ?_;refine qg (x:=lb) (H8.mv 3) rfl ?_;rw [aK];refine bz (H8.mv 5) rfl ?_;refine bM (x:=(q.base:Int)) H8 rfl ?_;refine (iQ (by omega) H8).mono ?_;rintro v h9 ⟨rfl,H9⟩;rw [aT];refine ⟨qg (x:=lb) (H9.mv 3) rfl rfl,rfl,rfl,dK (x:=fb) (H9.mv 5) rfl rfl,qg (x:=lb) (H9.mv 3) rfl rfl,rfl,rfl,bz (H9.mv 5) rfl rfl,?_⟩;refine (pL W S.dir (by rw [AF.iA]; decide) (H9.mv 1)).mono ?_;rintro v h10 (⟨bs,xa,xc,hrd,hb8,hbl,rfl,H10⟩ | ⟨e,hrd,e0,rfl,H10⟩)
   · refine ⟨xa,bs.length,xc,0,rfl,?_⟩;rw [show ((0:Int)!=0)=false from rfl,ab];refine (tV (x:=bs) H10 (fun h' hh=>aH hh) hb8 rfl (by omega)).mono ?_;rintro v h11 ⟨ra,rc,rfl,H11⟩;refine ⟨ra,(bp bs).length,rc,_,rfl,?_⟩;have hgl:=gX hb8;refine bM (x:=(q.count:Int)) (H11.mv 3) rfl ?_;by_cases c4:(bp bs).length<q.count
     · rw [ah (show (((bp bs).length:Int)<(q.count:Int)) by omega),ae];refine .inr ⟨70,?_,by decide,rfl,cw (H11.ordT 9 [7,8,2])⟩;rw [hdrop,AF.aU.readGo,am (by rintro (h | h) <;> omega),am c3,hrd];simp only [c4,if_true]
     rw [af (show ¬ (((bp bs).length:Int)<(q.count:Int)) by omega),ab];refine zi (x:=(lo:Int)) (H11.mv 6) rfl ?_;refine bM (x:=(q.base:Int)) (H11.mv 3) rfl ?_;refine bM (x:=(q.base:Int)) (H11.mv 3) rfl ?_;refine bM (x:=(q.count:Int)) (H11.mv 3) rfl ?_;have wa:(if (0:Int)>wrap .i64 ((lo:Int) - (q.base:Int)) then 0 else wrap .i64 ((lo:Int) - (q.base:Int)))=((lo - q.base:Nat):Int):=by
      rw [IntWalk.i64_in _ (by omega)];split <;> omega
     have wz:(if (q.count:Int)<wrap .i64 ((hi:Int) - (q.base:Int)) then (q.count:Int) else wrap .i64 ((hi:Int) - (q.base:Int)))=((min (hi - q.base) q.count:Nat):Int):=by
      rw [IntWalk.i64_in _ (by omega)];split <;> omega
     rw [wa,wz];have hrc:=(me H11).2.1;refine dI (lo:=lo - q.base) (hi:=min (hi - q.base) q.count) (mx:=min (hi - q.base) q.count) (by omega) (ax _) (by omega) ?_;refine xf (H11.ordT 9 [0,4,2,5,6,7,8]) (lo - q.base) (min (hi - q.base) q.count) (by omega) (by omega) (by omega) fun a' c' h12 H12=>?_;rw [aI,wi];have hlen:(out++((bp bs).take (min (hi - q.base) q.count)).drop (lo - q.base)).length=out.length+(min (hi - q.base) q.count - (lo - q.base)):=by
      rw [ao,length_drop,au,Nat.min_eq_left (show min (hi - q.base) q.count≤(bp bs).length by omega)]
     refine ⟨⟨i+1,out++((bp bs).take (min (hi - q.base) q.count)).drop (lo - q.base),a',c',by rw [hlen],by omega,by rw [hlen]; omega,?_,?_⟩,by omega⟩
     · rw [hdrop,AF.aU.readGo,am (by rintro (h | h) <;> omega),am c3,hrd];simp only [c4,if_false]
     · rw [hlen];exact H12.mv 1
   · refine ⟨none,0,0,(e:Int),rfl,?_⟩;rw [aX e0,ae];refine .inr ⟨e,?_,e0,rfl,cw (H10.ordT 7 [5,6,0])⟩;rw [hdrop,AF.aU.readGo,am (by rintro (h | h) <;> omega),am c3,hrd]
 · rw [af (by omega),ab];have ei:i=ps.length:=by omega
   refine fin h4 H4 ?_;rw [ei,List.drop_length]
   rfl
end
open Frame (bZ ck dz ci aY)
open Hex (eQ gW)
namespace AF
theorem Dn {a b:Nat} (ha:a<18446744073709551616) (hb:b<18446744073709551616):ji (cG a) (cG b)=decide (a<b):=by
 rw [← Hex.DG ha hb,lS]
 unfold ji cG
 have e:∀ x:ByteArray,((⟨#[115,46]⟩:ByteArray)++x).data.toList=115::46::x.data.toList:=by
  intro x;rw [ByteArray.data_append,Array.toList_append]
  rfl
 rw [e,e]
 have:(115::46::(dW (eQ 16 a)).data.toList<115::46::(dW (eQ 16 b)).data.toList)↔((dW (eQ 16 a)).data.toList<(dW (eQ 16 b)).data.toList):=by
  simp only [List.cons_lt_cons_self]
 by_cases h:(dW (eQ 16 a)).data.toList<(dW (eQ 16 b)).data.toList
 · rw [ah h,ah (this.2 h)]
 · rw [af h,af (fun hh=>h (this.1 hh))]
theorem vJ {n:ByteArray} {f:Nat}:∀ {l:bG},(∀ p∈l,ji p.1 n=true)→ins n f l=l++[(n,f)]
 | [],_=>rfl
 | p::l,h=>by
   have h1:=h p (by simp);have h2:p.1≠n:=fun e=>by rw [e] at h1; exact cI _ h1
   have h3:¬ ji n p.1=true:=fun e=>cI _ (fW e h1);rw [ins,am h2,am h3,vJ fun q hq=>h q (by simp [hq])]
   rfl
end AF
namespace AF
end AF
namespace AF
end AF
namespace AF
variable {L:aU} {A:FS} {b:List Nat}
theorem aU.small0 {dir:ByteArray} {size:Nat} (hd:dir.size<4611686018427387904) (hs:size≤16777216):aU.Small 0 ⟨dir,size,[],0,0⟩:=
 ⟨by decide,hs,hd,ax _,ax _,fun p hp=>by cases hp⟩
end AF
section
variable {b:Nat} {A A':AF.FS} {F:List aF} {h:Heap} {dir name:ByteArray}
theorem Bj {a:Option Addr} {c:Nat}:aE prog 84 [.slice a 0 c] h fun v h'=>v=.slice none 0 0∧h'=h:=by
 apply Bi.ap
 unfold F6
 refine ⟨fun st hh=>st=(⟨none,0,0⟩,0)∧hh=h,fun _ _=>0,⟨rfl,rfl⟩,?_⟩
 rintro st h1 ⟨rfl,rfl⟩
 exact ⟨rfl,rfl⟩
theorem Bl {p:Option Addr} {a:Option Addr} {c:Nat}:aE prog 83 [.pointer p,.slice a 0 c] h fun v h'=>v=.int .i64 0∧h'=h:=by
 apply vU.ap
 unfold Ea
 refine ⟨fun st hh=>st=0∧hh=h,fun _ _=>0,⟨rfl,rfl⟩,?_⟩
 rintro st h1 ⟨rfl,rfl⟩
 exact ⟨rfl,rfl⟩
theorem rt {size:Nat} (h1:1≤size) (h2:size≤16777216) (W:A.WF) (hs:A.steps+20000<1099511627776) (hd:dir.size<4611686018427387904) (hp:A.prep dir=(A',.ok [])) (H:aG (bV b A::F) h) :
  aE prog 35 [aM b,.string dir,.int .i64 (size:Int)] h fun v h'=>∃ lb,v=.tuple #[aM lb,.int .i64 0]∧A'.WF∧A'.steps≤A.steps+5001∧aG (cy lb b ⟨dir,size,[],0,0⟩::bV b A'::F) h':=by
 apply vW.ap
 unfold Ez
 rw [af (show ¬ ((size:Int)<1) by omega),ab,af (show ¬ ((size:Int)>16777216) by omega),ab]
 refine (tX W hs hd H).mono ?_
 rintro v h3 ⟨W1,s1,hr⟩
 rw [hp] at W1 s1 hr
 rcases hr with ⟨ks,a,c,hk,_,_,rfl,H3⟩ | ⟨e,hk,_⟩
 · cases hk;refine ⟨a,0,c,0,rfl,?_⟩;rw [show ((0:Int)!=0)=false from rfl,ab];refine aW H3.drop fun lb h4 H4=>?_;refine Bj.mono ?_;rintro v h5 ⟨rfl,rfl⟩;rw [aI];refine Bl.mono ?_;rintro v h6 ⟨rfl,rfl⟩;rw [aL,show ((0:Int)!=0)=false from rfl,ab];have H5:aG (cy lb b ⟨dir,size,[],0,0⟩::bV b A'::F) h6:=cw (a:=none) (c:=0) ((bR 158 3 H4).mv 1);refine (kC (k:=0) W1 (by dsimp only at s1 ⊢; omega) (AF.aU.small0 hd h2) H5).mono ?_;rintro v h7 ⟨rfl,H7⟩;have e0:(AF.aU.sync ⟨dir,size,[],0,0⟩ A')=(A',0):=rfl;rw [e0] at H7 ⊢;rw [aL,show (((0:Nat):Int)!=0)=false from rfl,ab];refine ⟨lb,rfl,W1,s1,?_⟩;rw [AF.aU.synced,an rfl] at H7;exact H7
 · cases hk
end
end Go.Proofs.YtdpaiiibndnanaaGreatDoor
