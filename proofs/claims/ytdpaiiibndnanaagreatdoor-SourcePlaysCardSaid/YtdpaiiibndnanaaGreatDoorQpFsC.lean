/- The file system's own block: steps,fuses,what is told of it. How a file system lies in memory. Names,and the closures that a pending operation is. The closures that a pending operation is. Directories found by their names. Maps as lists,in whatever order; directories and entries found by their names. A file found by its directory and name; steps; pending operations done. What is used,counted. A pending operation: done among the entries,kept for later. Mkdir. Create. -/
import Derived.Test.YtdpaiiibndnanaaGreatDoorQpFsA
import Derived.Test.YtdpaiiibndnanaaGreatDoorQpFsB
import Derived.Test.YtdpaiiibndnanaaGreatDoorQpFwB
import Derived.Test.YtdpaiiibndnanaaGreatDoorQpTa
namespace Go.Proofs.YtdpaiiibndnanaaGreatDoor
open Go.IntKind (wrap)
open Go.Proofs.Tryz (prog)
open List (getD_eq_getElem?_getD length_drop append_assoc take_append_drop map_append filter_cons map_cons map_congr_left map_map pairwise_map nodup_cons find?_cons flatMap_cons getElem?_of_mem sum_cons zipWith eq_nil_of_length_eq_zero getElem?_zipWith getElem?_set not_mem_nil sum_append zipWith_append zipWith_cons_cons)
open Go Go.RowKit
set_option linter.unusedVariables false
set_option linter.unusedSimpArgs false
def iX (b:Nat) (room used steps fuse:Int) (off:Bool) (md:Nat):aF:=
 pt b (.cells #[.int .i64 room,.int .i64 used,.int .i64 steps,.int .i64 fuse,.bool off,.map (some md)] 89 (0,0))
theorem xO {b md:Nat} {room used steps fuse:Int} {off:Bool} {F:List aF} {h:Heap} (H:aG (iX b room used steps fuse off md::F) h) (hf : -1≤fuse∧fuse≤9223372036854775807) (hs:0≤steps∧steps<9223372036854775807) :
  aE prog 100 [.pointer (some ⟨b,0,none⟩)] h fun v h'=>
   (fuse=0∧v=.int .i64 60∧aG (iX b room used steps fuse true md::F) h')∨
   (fuse≠0∧v=.int .i64 0∧aG (iX b room used (steps+1) (if fuse<0 then -1 else fuse - 1) off md::F) h'):=by
 apply CO.ap
 unfold Hq
 simp only [aK,aP]
 refine dX (v:=.int .i64 fuse) H rfl ?_
 rw [aL]
 by_cases h0:fuse=0
 · subst h0;rw [show ((0:Int)==0)=true from rfl,ae];refine ct (i:=4) (c':=#[.int .i64 room,.int .i64 used,.int .i64 steps,.int .i64 0,.bool true,.map (some md)]) H (by show 4<6; decide) rfl fun h1 H1=>?_;exact .inl ⟨rfl,by trivial,H1⟩
 · have hb:(fuse==0)=false:=by simpa using h0
   rw [hb,ab];refine dX (v:=.int .i64 fuse) H rfl ?_;rw [aL];have w:(if (-1:Int)>wrap .i64 (fuse - 1) then (-1) else wrap .i64 (fuse - 1))=(if fuse<0 then -1 else fuse - 1):=by
    rw [IntWalk.i64_in _ (by omega)];split <;> split <;> omega
   rw [w];refine ct (c':=#[.int .i64 room,.int .i64 used,.int .i64 steps,.int .i64 (if fuse<0 then -1 else fuse - 1),.bool off,.map (some md)]) H (by show 3<6; decide) rfl fun h1 H1=>?_;refine dX (v:=.int .i64 steps) H1 rfl ?_;rw [aL,IntWalk.i64_in (steps+1) (by omega)];refine ct (c':=#[.int .i64 room,.int .i64 used,.int .i64 (steps+1),.int .i64 (if fuse<0 then -1 else fuse - 1),.bool off,.map (some md)]) H1 (by show 2<6; decide) rfl fun h2 H2=>?_;exact .inr ⟨h0,by trivial,H2⟩
open Go Go.RowKit Go.MapKept
def tH (x:AF.cV) (xb:Nat):aF:=pZ fun q:Option Addr×Nat=>bP [pt xb (.cells #[.slice q.1 x.b.length q.2,.int .i64 (x.safe:Int)] 180 (0,0)),aQ 5 1 q.1 x.b.length q.2 (x.b.map nv)]
def co (xbs:List Nat) (mb:Nat) (l:AF.bG):aF:=pZ fun m:List (ByteArray×Value)=>bP [bT aS mb m,lY (m.Perm (l.map fun p=>(p.1,aM (xbs.getD p.2 0))))]
def lF (xbs:List Nat):AF.Op→Value→aF
 | .create n f,v=>pZ fun q:Nat×Nat=>bP [lY (v=.func (.func 102) #[] #[aM q.1,aM q.2]),ro q.1 (.cells #[aM (xbs.getD f 0)] 178 (0,0)),ro q.2 (.cells #[.string n] 9 (0,0))]
 | .rename a b,v=>pZ fun q:Nat×Nat=>bP [lY (v=.func (.func 105) #[] #[aM q.1,aM q.2]),ro q.1 (.cells #[.string a] 9 (0,0)),ro q.2 (.cells #[.string b] 9 (0,0))]
 | .remove a,v=>pZ fun q:Nat=>bP [lY (v=.func (.func 106) #[] #[aM q]),ro q (.cells #[.string a] 9 (0,0))]
structure Il where
 nb:Nat
 bb:Nat
 a:Option Addr
 c:Nat
def sk (xbs:List Nat) (d:AF.cu) (fb:Nat):aF:=pZ fun q:Il=>bP [pt fb (.cells #[.map (some q.nb),.map (some q.bb),.slice q.a d.pend.length q.c] 177 (0,0)),co xbs q.nb d.now,co xbs q.bb d.base,fR (lF xbs) 182 q.a d.pend.length q.c d.pend]
def dP:Option Nat→Int
 | some n=>(n:Int)
 | none => -1
structure rp where
 md:Nat
 fbs:List Nat
 xbs:List Nat
 m:List (ByteArray×Value)
def bY (xbs:List Nat) (fs:List AF.cV):aF:=bP (zipWith tH fs xbs)
def cQ (xbs fbs:List Nat) (ds:List AF.cu):aF:=bP (zipWith (sk xbs) ds fbs)
def lu (A:AF.FS) (q:rp):Prop:=q.m.Perm (zipWith (fun (d:AF.cu) fb=>(d.name,aM fb)) A.dirs q.fbs)∧q.fbs.length=A.dirs.length∧q.xbs.length=A.files.length
def cA (b:Nat) (A:AF.FS) (md:Nat):aF:=iX b (A.room:Int) (A.used:Int) (A.steps:Int) (dP A.fuse) A.off md
def Hu (b:Nat) (A:AF.FS) (q:rp):aF:=bP [cA b A q.md,bT aS q.md q.m,bY q.xbs A.files,cQ q.xbs q.fbs A.dirs]
def bV (b:Nat) (A:AF.FS):aF:=pZ fun q:rp=>bP [lY (lu A q),Hu b A q]
section
variable {b:Nat} {A:AF.FS} {F:List aF} {h:Heap}
theorem cP (H:aG (bV b A::F) h):∃ q:rp,lu A q∧aG (cA b A q.md::bT aS q.md q.m::bY q.xbs A.files::cQ q.xbs q.fbs A.dirs::F) h:=by
 obtain ⟨q,H⟩:=bD.1 H
 obtain ⟨hq,H2⟩:=cE.1 H.open
 exact ⟨q,hq,H2.open⟩
theorem bu (q:rp) (hq:lu A q) (H:aG (cA b A q.md::bT aS q.md q.m::bY q.xbs A.files::cQ q.xbs q.fbs A.dirs::F) h):aG (bV b A::F) h:=by
 have H2:aG (Hu b A q::F) h:=aG.shut (m:=[cA b A q.md,bT aS q.md q.m,bY q.xbs A.files,cQ q.xbs q.fbs A.dirs]) (l:=F) H
 have H3:aG (lY (lu A q)::Hu b A q::F) h:=cE.2 ⟨hq,H2⟩
 exact bD.2 ⟨q,aG.shut (m:=[lY (lu A q),Hu b A q]) (l:=F) H3⟩
end
theorem oZ {F:List aF} {h:Heap} (H:aG F h):aG (bP []::F) h:=aG.shut (m:=[]) H
theorem um {room:Nat} {h:Heap} {F:List aF} (H:aG F h) (hr:room≤1073741824) :
  aE prog 12 [.int .i64 (room:Int)] h fun v h'=>∃ b,v=.tuple #[aM b,.int .i64 0]∧aG (bV b ⟨room,0,none,false,[],[]⟩::F) h':=by
 apply EW.ap
 unfold Jm
 rw [af (show ¬ ((room:Int)<0) by omega),ab,af (show ¬ ((room:Int)>1073741824) by omega),ab]
 refine aW H fun b0 h1 H1=>aW H1 fun b1 h2 H2=>?_
 refine ⟨b1,rfl,?_⟩
 have H3:=(tf aS (H2.mv 1)).mv 1
 refine bu ⟨b0,[],[],[]⟩ ⟨.refl _,rfl,rfl⟩ ?_
 have H4:aG (bY [] []::cA b1 ⟨room,0,none,false,[],[]⟩ b0::bT aS b0 []::F) h2:=oZ H3
 have H5:aG (cQ [] [] []::bY [] []::cA b1 ⟨room,0,none,false,[],[]⟩ b0::bT aS b0 []::F) h2:=oZ H4
 exact H5.ordT 4 [2,3,1,0]
def lr (n:Nat):Bool:=(decide (97≤n)&&decide (n≤122))||(decide (48≤n)&&decide (n≤57))||decide (n=46)
theorem sY (s:ByteArray):AF.right s=(decide (1≤s.size)&&decide (s.size≤32)&&(sb s).all lr):=by
 unfold AF.right sb nb
 rw [List.all_map]
 rfl
theorem rx {s:ByteArray} {h:Heap} (hs:s.size<4611686018427387904):aE prog 146 [.string s] h fun v h'=>v=.bool (AF.right s)∧h'=h:=by
 apply Ch.ap
 unfold GN
 have hsl:=bE s
 refine ⟨fun st h1=>h1=h∧∃ i:Nat,st=(i:Int)∧i≤s.size∧((sb s).take i).all lr=true,fun st _=>((s.size:Int) - st).toNat,⟨rfl,0,rfl,aw _,by simp⟩,?_⟩
 rintro st h1 ⟨rfl,i,rfl,hi,hg⟩
 by_cases hlt:i<s.size
 · rw [ah (show ((i:Int)<(s.size:Int)) by omega),ae];refine ⟨by omega,by omega,?_⟩;obtain ⟨x,hx⟩:∃ x,(sb s)[i]? = some x:=⟨_,ai (by omega)⟩
   rw [nK hx];have bad:lr x=false→AF.right s=false:=fun hb=>by
    rw [sY,Bool.and_eq_false_iff];right;rw [List.all_eq_false];exact ⟨x,aj hx,by rw [hb]; simp⟩
   have on:lr x=true→(h1=h1∧∃ j:Nat,wrap .i64 ((i:Int)+1)=(j:Int)∧j≤s.size∧((sb s).take j).all lr=true)∧((s.size:Int) - wrap .i64 ((i:Int)+1)).toNat<((s.size:Int) - (i:Int)).toNat:=fun hb=>by
    rw [aN (by omega)];refine ⟨⟨rfl,i+1,rfl,by omega,?_⟩,by omega⟩;rw [az,hx,List.all_append,hg];simp [hb]
   by_cases h97:x<97
   · rw [ah (show ((x:Int)<97) by omega),ae];by_cases h48:x<48
     · rw [ah (show ((x:Int)<48) by omega),ae];by_cases h46:x=46
       · subst h46;exact on rfl
       · rw [show (((x:Int))!=46)=true by rw [bne_iff_ne]; omega,ae,bad (by simp [lr]; omega)];exact ⟨rfl,rfl⟩
     · rw [af (show ¬ ((x:Int)<48) by omega),ab];by_cases h57:x>57
       · rw [ah (show ((x:Int)>57) by omega),ae,show (((x:Int))!=46)=true by rw [bne_iff_ne]; omega,ae,bad (by simp [lr]; omega)];exact ⟨rfl,rfl⟩
       · rw [af (show ¬ ((x:Int)>57) by omega),ab];exact on (by simp [lr]; omega)
   · rw [af (show ¬ ((x:Int)<97) by omega),ab];by_cases h122:x>122
     · rw [ah (show ((x:Int)>122) by omega),ae,af (show ¬ ((x:Int)<48) by omega),ab,
        ah (show ((x:Int)>57) by omega),ae,show (((x:Int))!=46)=true by rw [bne_iff_ne]; omega,ae,bad (by simp [lr]; omega)]
       exact ⟨rfl,rfl⟩
     · rw [af (show ¬ ((x:Int)>122) by omega),ab];exact on (by simp [lr]; omega)
 · have e:i=s.size:=by omega
   subst e;rw [af (by omega),ab];rw [av (by omega)] at hg;rw [sY,hg,Bool.and_true,gg,yp];by_cases h0:s.size=0
   · have:sb s=[]:=eq_nil_of_length_eq_zero (by omega);rw [ah this,h0];exact ⟨rfl,rfl⟩
   · have:¬ sb s=[]:=fun e=>h0 (by rw [← hsl,e]; rfl);rw [af this,aC,ae,ah (show 1≤s.size by omega),Bool.true_and];refine ⟨congrArg Value.bool ?_,rfl⟩;by_cases h32:s.size≤32
     · rw [ah h32,ah (show ((s.size:Int)≤32) by omega)]
     · rw [af h32,af (show ¬ ((s.size:Int)≤32) by omega)]
theorem E4:prog.underlying 174=some (.map 9 178):=by kernel_rfl
theorem u9:prog.underlying 9=some aS.desc:=by kernel_rfl
theorem xN {mb bx bn xb:Nat} {m:List (ByteArray×Value)} {n:ByteArray} {ex en:TypeId} {h:Heap} {F:List aF} (H:aG (bT aS mb m::F) h) (hx:h[bx]? = some (.cells #[aM xb] ex (0,0))) (hn:h[bn]? = some (.cells #[.string n] en (0,0))) :
  aE prog 102 [.map (some mb),aM bx,aM bn] h fun v h'=>v=.tuple #[]∧aG (bT aS mb (lR m n (aM xb))::F) h':=by
 apply CM (n0:=some mb) (c0:=⟨bx,0,none⟩) (c1:=⟨bn,0,none⟩)
 unfold E2
 refine nN hn ?_
 rw [aT]
 refine nN hx ?_
 show DP (.pointer (some ⟨xb,0,none⟩)) _
 rw [bo]
 exact gM (E:=aS) (k:=n) E4 u9 H fun h' H'=>⟨rfl,H'⟩
theorem xL {mb bn:Nat} {m:List (ByteArray×Value)} {n:ByteArray} {en:TypeId} {h:Heap} {F:List aF} (H:aG (bT aS mb m::F) h) (hn:h[bn]? = some (.cells #[.string n] en (0,0))) :
  aE prog 106 [.map (some mb),aM bn] h fun v h'=>v=.tuple #[]∧aG (bT aS mb (jC m n)::F) h':=by
 apply CJ (n0:=some mb) (c0:=⟨bn,0,none⟩)
 unfold E0
 refine nN hn ?_
 rw [aT]
 exact pC (E:=aS) (k:=n) E4 u9 H fun h' H'=>⟨rfl,H'⟩
theorem xM {mb ba bb:Nat} {m:List (ByteArray×Value)} {a b:ByteArray} {ea eb:TypeId} {p:Option Addr} {h:Heap} {F:List aF} (H:aG (bT aS mb m::F) h) (ha:h[ba]? = some (.cells #[.string a] ea (0,0)))
  (hb:∀ h',aG (bT aS mb (jC m a)::F) h'→h'[bb]? = some (.cells #[.string b] eb (0,0))) (hp:(pY m a).getD (.pointer none)=.pointer p) :
  aE prog 105 [.map (some mb),aM ba,aM bb] h fun v h'=>v=.tuple #[]∧aG (bT aS mb (lR (jC m a) b (.pointer p))::F) h':=by
 apply CK (n0:=some mb) (c0:=⟨ba,0,none⟩) (c1:=⟨bb,0,none⟩)
 unfold E1
 refine nN ha ?_
 rw [aT]
 obtain ⟨es,clock,hm,hes⟩:=gG H
 obtain ⟨f,hf,hl,_⟩:=hm.find a
 refine ⟨es,hes,f,hf,?_⟩
 rw [hl,hp,bo]
 refine nN ha ?_
 rw [aT]
 refine pC (E:=aS) (k:=a) E4 u9 H fun h1 H1=>?_
 refine nN (hb h1 H1) ?_
 rw [aT]
 exact gM (E:=aS) (k:=b) E4 u9 H1 fun h' H'=>⟨rfl,H'⟩
def iI (m:List (ByteArray×Value)) (dir:ByteArray) (ss:List ByteArray):Value:=
 if AF.right dir&&ss.all AF.right then match pY m dir with
  | some v=>.tuple #[v,.int .i64 0]
  | none=>.tuple #[.pointer none,.int .i64 61]
 else .tuple #[.pointer none,.int .i64 65]
theorem m7 {b md:Nat} {room used steps fuse:Int} {off:Bool} {m:List (ByteArray×Value)} {dir:ByteArray} {a:Option Addr} {l c:Nat} {ss:List ByteArray} {h:Heap} {F:List aF}
  (H:aG (iX b room used steps fuse off md::bT aS md m::F) h) (hp:∀ k v,pY m k=some v→∃ fb,v=aM fb) (hr:cv h a (ss.map Value.string)) (hl:ss.length=l) (hlb:l<1000)
  (hd:dir.size<4611686018427387904) (hss:∀ s∈ss,s.size<4611686018427387904) :
  aE prog 111 [.pointer (some ⟨b,0,none⟩),.string dir,.slice a l c] h fun v h'=>v=iI m dir ss∧h'=h:=by
 apply CE.ap
 unfold Hj
 refine (rx hd).mono ?_
 rintro v h1 ⟨rfl,rfl⟩
 rw [bO]
 cases hrd:AF.right dir with
 | false=>exact ⟨by unfold iI; rw [hrd]; rfl,rfl⟩
 | true=>
   rw [aB,ab];refine ⟨fun st h2=>h2=h1∧∃ i:Nat,st=(i:Int)∧i≤l∧(ss.take i).all AF.right=true,fun st _=>((l:Int) - st).toNat,⟨rfl,0,rfl,aw _,by simp⟩,?_⟩;rintro st h2 ⟨rfl,i,rfl,hi,hg⟩;by_cases hlt:i<l
   · rw [ah (show ((i:Int)<(l:Int)) by omega),ae];obtain ⟨s,hs⟩:∃ s,ss[i]? = some s:=⟨_,ai (by omega)⟩
     refine bj (v:=.string s) hr (by rw [aq]; exact hl) (by rw [List.getElem?_map,hs]; rfl) fun b hb hc=>⟨_,hc,?_⟩
     show DS (.string s) _;rw [aT];refine (rx (hss s (aj hs))).mono ?_;rintro v h3 ⟨rfl,rfl⟩;rw [bO]
     cases hrs:AF.right s with
     | false=>
       refine ⟨?_,rfl⟩;have:ss.all AF.right=false:=by
        rw [List.all_eq_false];exact ⟨s,aj hs,by rw [hrs]; simp⟩
       unfold iI;rw [hrd,this]
       rfl
     | true=>
       rw [aB,ab,aN (by omega)];refine ⟨⟨rfl,i+1,rfl,by omega,?_⟩,by show ((l:Int) - ((i+1:Nat):Int)).toNat<((l:Int) - (i:Int)).toNat; omega⟩;rw [az,hs,List.all_append,hg];simp [hrs]
   · have e:i=l:=by omega
     subst e;rw [af (by omega),ab];rw [av (by omega)] at hg;simp only [aK];refine dX (v:=.map (some md)) H rfl ?_;rw [cM];obtain ⟨es,clock,hm,hes⟩:=gG (H.mv 1);obtain ⟨f,hf,hlk,_⟩:=hm.find dir;refine ⟨es,hes,f,hf,?_⟩;rw [hlk]
     cases hk:pY m dir with
     | none=>
       show DP (.pointer none) _;rw [bo];exact ⟨by unfold iI; rw [hrd,hg,hk]; rfl,by trivial⟩
     | some v=>
       obtain ⟨fb,rfl⟩:=hp dir v hk;show DP (.pointer (some ⟨fb,0,none⟩)) _;rw [bo];exact ⟨by unfold iI; rw [hrd,hg,hk]; rfl,by trivial⟩
def yx (off:Bool) (m:List (ByteArray×Value)) (dir:ByteArray) (ss:List ByteArray):Value:=if off then .tuple #[.pointer none,.int .i64 60] else iI m dir ss
theorem tE {m:List (ByteArray×Value)} (hp:∀ k v,pY m k=some v→∃ fb,v=aM fb) (dir:ByteArray) (ss:List ByteArray):∃ (p:Option Addr) (e:Int),iI m dir ss=.tuple #[.pointer p,.int .i64 e]:=by
 unfold iI
 split
 · cases hk:pY m dir with
   | none=>exact ⟨none,61,rfl⟩
   | some v=>
     obtain ⟨fb,rfl⟩:=hp dir v hk;exact ⟨some ⟨fb,0,none⟩,0,rfl⟩
 · exact ⟨none,65,rfl⟩
theorem zm {b md:Nat} {room used steps fuse:Int} {off:Bool} {m:List (ByteArray×Value)} {dir:ByteArray} {a:Option Addr} {l c:Nat} {ss:List ByteArray} {h:Heap} {F:List aF}
  (H:aG (iX b room used steps fuse off md::bT aS md m::F) h) (hp:∀ k v,pY m k=some v→∃ fb,v=aM fb) (hr:cv h a (ss.map Value.string)) (hl:ss.length=l) (hlb:l<1000)
  (hd:dir.size<4611686018427387904) (hss:∀ s∈ss,s.size<4611686018427387904) :
  aE prog 99 [.pointer (some ⟨b,0,none⟩),.string dir,.slice a l c] h fun v h'=>v=yx off m dir ss∧h'=h:=by
 apply D0.ap
 unfold Iw
 simp only [Option.isNone_some,ab,aK]
 refine dX (v:=.bool off) H rfl ?_
 rw [bO]
 cases off with
 | true=>exact ⟨rfl,by trivial⟩
 | false=>
   rw [ab];refine (m7 H hp hr hl hlb hd hss).mono ?_;rintro v h1 ⟨rfl,rfl⟩;obtain ⟨p,e,hf⟩:=tE hp dir ss;exact ⟨p,e,hf,by rw [← hf]; rfl,by trivial⟩
section
variable {κ:Type} [DecidableEq κ] {m n:List (κ×Value)}
theorem AG {k:κ} {v:Value} (h:pY m k=some v):(k,v)∈m:=by
 unfold pY at h
 cases hf:m.find? (fun p=>decide (p.1=k)) with
 | none=>rw [hf] at h; cases h
 | some p=>
   rw [hf] at h;simp only [Option.map_some,Option.some.injEq] at h;have h1:=List.find?_some hf;simp only [decide_eq_true_eq] at h1;have h2:=List.mem_of_find?_eq_some hf;rw [← h,← h1];exact h2
theorem rZ (hu:(m.map (·.1)).Nodup) {k:κ} {v:Value} (h:(k,v)∈m):pY m k=some v:=by
 induction m with
 | nil=>cases h
 | cons q m ih=>
   simp only [map_cons,nodup_cons] at hu;unfold pY;rw [find?_cons]
   rcases aA.1 h with rfl | h
   · simp
   · have hne:q.1≠k:=fun e=>hu.1 (by rw [e]; exact List.mem_map.2 ⟨(k,v),h,rfl⟩);simp only [hne,decide_false];exact ih hu.2 h
theorem tv {k:κ} (h:∀ p∈m,p.1≠k):pY m k=none:=by
 unfold pY
 rw [List.find?_eq_none.2 fun p hp=>by simpa using h p hp]
 rfl
theorem mW {k:κ} (h:∀ p∈m,p.1≠k):jC m k=m:=List.filter_eq_self.2 fun p hp=>by simpa using h p hp
theorem qk {k:κ} {v:Value} (hu:(m.map (·.1)).Nodup):(lR m k v).Perm ((k,v)::jC m k):=by
 unfold lR
 split
 · rename_i ha
   induction m with
   | nil=>simp at ha
   | cons q m ih=>
     simp only [map_cons,nodup_cons] at hu;by_cases hq:q.1=k
     · have hno:∀ p∈m,p.1≠k:=fun p hp e=>hu.1 (by rw [hq,← e]; exact List.mem_map.2 ⟨p,hp,rfl⟩);have h1:m.map (fun p=>if p.1=k then (k,v) else p)=m:=by
        conv=>rhs; rw [← List.map_id m]
        exact map_congr_left fun p hp=>by simp [hno p hp]
       have h2:jC (q::m) k=m:=by
        unfold jC;rw [filter_cons,am (by simp [hq])];exact mW hno
       rw [map_cons,an hq,h1,h2]
     · have h2:jC (q::m) k=q::jC m k:=by
        unfold jC;rw [filter_cons,an (by simp [hq])]
       have ha2:m.any (fun p=>decide (p.1=k))=true:=by simpa [hq] using ha
       rw [map_cons,am hq,h2];exact ((ih hu.2 ha2).cons q).trans (.swap _ _ _)
 · rename_i ha;rw [mW fun p hp e=>ha (List.any_eq_true.2 ⟨p,hp,by simpa using e⟩)];exact List.perm_append_comm
theorem w6 (h:m.Perm n) (k:κ):(jC m k).Perm (jC n k):=h.filter _
end
def jz (xbs:List Nat) (p:ByteArray×Nat):ByteArray×Value:=(p.1,aM (xbs.getD p.2 0))
section
variable {xbs:List Nat} {m:List (ByteArray×Value)} {l:AF.bG}
theorem pv:(l.map (jz xbs)).map (·.1)=l.map (·.1):=by rw [map_map]; rfl
theorem q5 (hp:m.Perm (l.map (jz xbs))) (hu:AF.Up l):(m.map (·.1)).Nodup:=by
 rw [(hp.map (·.1)).nodup_iff,pv]
 exact hu.nodup
theorem vb (hp:m.Perm (l.map (jz xbs))) (hu:AF.Up l) (n:ByteArray):pY m n=(AF.of l n).map fun x=>aM (xbs.getD x 0):=by
 cases ho:AF.of l n with
 | none=>
   refine tv fun p hm=>?_;obtain ⟨p',hp',rfl⟩:=List.mem_map.1 (hp.mem_iff.1 hm);exact AF.AD ho p' hp'
 | some x=>exact rZ (q5 hp hu) (hp.mem_iff.2 (List.mem_map.2 ⟨(n,x),AF.jc ho,rfl⟩))
theorem si (hp:m.Perm (l.map (jz xbs))) (n:ByteArray):(jC m n).Perm ((AF.drop l n).map (jz xbs)):=by
 have h:=w6 hp n
 have e:jC (l.map (jz xbs)) n=(AF.drop l n).map (jz xbs):=by
  unfold jC AF.drop;rw [List.filter_map]
  rfl
 rwa [e] at h
theorem sh (hp:m.Perm (l.map (jz xbs))) (hu:AF.Up l) (n:ByteArray) (x:Nat):(lR m n (aM (xbs.getD x 0))).Perm ((AF.ins n x l).map (jz xbs)):=by
 refine (qk (q5 hp hu)).trans ?_
 refine ((si hp n).cons _).trans ?_
 exact ((AF.iG (f:=x) hu).map (jz xbs)).symm
end
section
variable {A:AF.FS} {q:rp}
theorem jA (hq:lu A q) {k:ByteArray} {v:Value}:(k,v)∈q.m↔∃ (i:Nat) (d:AF.cu) (fb:Nat),A.dirs[i]? = some d∧q.fbs[i]? = some fb∧k=d.name∧v=aM fb:=by
 rw [hq.1.mem_iff]
 constructor
 · intro h;obtain ⟨i,hi⟩:=getElem?_of_mem h;rw [getElem?_zipWith] at hi
   cases h1:A.dirs[i]? with
   | none=>rw [h1] at hi; simp at hi
   | some d=>
     cases h2:q.fbs[i]? with
     | none=>rw [h1,h2] at hi; simp at hi
     | some fb=>
       rw [h1,h2] at hi;simp only [Option.some.injEq,Prod.mk.injEq] at hi;exact ⟨i,d,fb,h1,h2,hi.1.symm,hi.2.symm⟩
 · rintro ⟨i,d,fb,h1,h2,rfl,rfl⟩;refine aj (i:=i) ?_;rw [getElem?_zipWith,h1,h2]
theorem jB (hq:lu A q):(q.m.map (·.1)).Perm (A.dirs.map (·.name)):=by
 refine (hq.1.map _).trans (.of_eq ?_)
 apply List.ext_getElem?
 intro i
 rw [List.getElem?_map,List.getElem?_map,getElem?_zipWith]
 cases h1:A.dirs[i]? with
 | none=>simp
 | some d=>
   have:i<q.fbs.length:=by rw [hq.2.1]; exact (ak.1 h1).1
   rw [ai this]
   rfl
theorem nz (W:A.WF):(A.dirs.map (·.name)).Nodup:=by
 rw [List.Nodup,pairwise_map]
 refine List.Pairwise.imp ?_ W.up
 intro a b h e
 rw [← e] at h
 exact AF.cI a.name h
theorem lJ (W:A.WF) (hq:lu A q):(q.m.map (·.1)).Nodup:=(jB hq).nodup_iff.2 (nz W)
theorem yX (hq:lu A q) {i:Nat} {d:AF.cu} (hd:A.dirs[i]? = some d):∃ fb,q.fbs[i]? = some fb:=
 ⟨_,ai (by rw [hq.2.1]; exact (ak.1 hd).1)⟩
theorem vr (hq:lu A q) {x:Nat} (hx:x<A.files.length):∃ y xb,A.files[x]? = some y∧q.xbs[x]? = some xb∧q.xbs.getD x 0=xb:=
 ⟨_,_,ai hx,ai (by rw [hq.2.2]; exact hx),by rw [getD_eq_getElem?_getD,ai (by rw [hq.2.2]; exact hx)]; rfl⟩
theorem pA (hq:lu A q) (k:ByteArray) (v:Value) (hk:pY q.m k=some v):∃ fb,v=aM fb:=by
 obtain ⟨i,d,fb,_,_,_,h⟩:=(jA hq).1 (AG hk)
 exact ⟨fb,h⟩
theorem AX (W:A.WF) (hq:lu A q) (dir:ByteArray):(A.at dir=none∧pY q.m dir=none)∨∃ (i:Nat) (d:AF.cu) (fb:Nat),A.at dir=some i∧A.dirs[i]? = some d∧d.name=dir∧q.fbs[i]? = some fb∧pY q.m dir=some (aM fb):=by
 cases ha:A.at dir with
 | none=>
   refine .inl ⟨rfl,tv fun p hp e=>?_⟩;obtain ⟨i,d,fb,h1,_,h2,_⟩:=(jA hq (k:=p.1) (v:=p.2)).1 hp;exact AF.og ha d (aj h1) (by rw [← h2,e])
 | some i=>
   obtain ⟨d,hd,hn⟩:=AF.oe ha;obtain ⟨fb,hf⟩:=yX hq hd;exact .inr ⟨i,d,fb,rfl,hd,hn,hf,rZ (lJ W hq) ((jA hq).2 ⟨i,d,fb,hd,hf,hn.symm,rfl⟩)⟩
theorem pm (W:A.WF) (hq:lu A q) (dir:ByteArray) (ss:List ByteArray):(∃ (i:Nat) (d:AF.cu) (fb:Nat),A.named dir ss=.ok i∧A.dirs[i]? = some d∧q.fbs[i]? = some fb∧iI q.m dir ss=.tuple #[aM fb,.int .i64 0])∨
  ∃ e:Nat,A.named dir ss=.error e∧(e=61∨e=65)∧iI q.m dir ss=.tuple #[.pointer none,.int .i64 (e:Int)]:=by
 unfold iI AF.FS.named
 split
 · rcases AX W hq dir with ⟨h1,h2⟩ | ⟨i,d,fb,h1,h2,h3,h4,h5⟩
   · rw [h1,h2]; exact .inr ⟨61,rfl,.inl rfl,rfl⟩
   · rw [h1,h5]; exact .inl ⟨i,d,fb,rfl,h2,h4,rfl⟩
 · exact .inr ⟨65,rfl,.inr rfl,rfl⟩
end
abbrev wT (b:Nat) (A:AF.FS) (q:rp) (F:List aF):List aF:=cA b A q.md::bT aS q.md q.m::bY q.xbs A.files::cQ q.xbs q.fbs A.dirs::F
section
variable {b:Nat} {A:AF.FS} {q:rp} {F:List aF} {h:Heap}
theorem gA {dir:ByteArray} {a:Option Addr} {l c:Nat} {ss:List ByteArray} (W:A.WF) (hq:lu A q) (H:aG (cA b A q.md::bT aS q.md q.m::F) h) (hr:cv h a (ss.map Value.string)) (hl:ss.length=l) (hlb:l<1000)
  (hd:dir.size<4611686018427387904) (hss:∀ s∈ss,s.size<4611686018427387904) :
  aE prog 99 [aM b,.string dir,.slice a l c] h fun v h'=>h'=h∧((∃ (i:Nat) (d:AF.cu) (fb:Nat),A.ready dir ss=.ok i∧A.dirs[i]? = some d∧q.fbs[i]? = some fb∧v=.tuple #[aM fb,.int .i64 0])∨
   ∃ e:Nat,A.ready dir ss=.error e∧(e=60∨e=61∨e=65)∧v=.tuple #[.pointer none,.int .i64 (e:Int)]):=by
 refine (zm H (pA hq) hr hl hlb hd hss).mono ?_
 rintro v h1 ⟨rfl,rfl⟩
 refine ⟨rfl,?_⟩
 unfold yx AF.FS.ready
 cases A.off with
 | true=>exact .inr ⟨60,rfl,.inl rfl,rfl⟩
 | false=>
   rcases pm W hq dir ss with ⟨i,d,fb,h1,h2,h3,h4⟩ | ⟨e,h1,h2,h3⟩
   · exact .inl ⟨i,d,fb,h1,h2,h3,h4⟩
   · exact .inr ⟨e,h1,.inr h2,h3⟩
def lM (xbs fbs:List Nat) (ds:List AF.cu) (i:Nat):aF:=qe (sk xbs) ds fbs i
def li (nb bb:Nat) (a:Option Addr) (l c:Nat):Obj:=.cells #[.map (some nb),.map (some bb),.slice a l c] 177 (0,0)
theorem i7 {xbs fbs:List Nat} {ds:List AF.cu} {i:Nat} {d:AF.cu} {fb:Nat} (H:aG (cQ xbs fbs ds::F) h) (hd:ds[i]? = some d) (hf:fbs[i]? = some fb) :
  ∃ (nb bb:Nat) (a:Option Addr) (c:Nat),aG (pt fb (li nb bb a d.pend.length c)::co xbs nb d.now::co xbs bb d.base::fR (lF xbs) 182 a d.pend.length c d.pend::lM xbs fbs ds i::F) h:=by
 obtain ⟨r,H2⟩:=bD.1 (gU H hd hf)
 exact ⟨r.nb,r.bb,r.a,r.c,H2.open⟩
theorem lL {xbs fbs:List Nat} {ds:List AF.cu} {i:Nat} {d d':AF.cu} {fb nb bb:Nat} {a:Option Addr} {c:Nat} (hd:ds[i]? = some d') (hf:fbs[i]? = some fb)
  (H:aG (pt fb (li nb bb a d.pend.length c)::co xbs nb d.now::co xbs bb d.base::fR (lF xbs) 182 a d.pend.length c d.pend::lM xbs fbs ds i::F) h):aG (cQ xbs fbs (ds.set i d)::F) h:=by
 refine sd hf (ak.1 hd).1 (bD.2 ⟨⟨nb,bb,a,c⟩,?_⟩)
 exact aG.shut (m:=[pt fb (li nb bb a d.pend.length c),co xbs nb d.now,co xbs bb d.base,fR (lF xbs) 182 a d.pend.length c d.pend]) H
theorem cT {α:Type} {l:List α} {i:Nat} {x:α} (g:α→α) (hx:l[i]? = some x):l.modify i g=l.set i (g x):=by
 apply List.ext_getElem?
 intro j
 rw [gH,getElem?_set]
 have hl:=(ak.1 hx).1
 by_cases h:i=j
 · subst h;rw [hx,an rfl,an hl];simp
 · simp [h]
theorem eN {xbs:List Nat} {mb:Nat} {l:AF.bG} (H:aG (co xbs mb l::F) h):∃ m:List (ByteArray×Value),m.Perm (l.map (jz xbs))∧aG (bT aS mb m::F) h:=by
 obtain ⟨m,H2⟩:=bD.1 H
 have H3:=H2.open
 obtain ⟨hp,H4⟩:=cE.1 (H3.mv 1)
 exact ⟨m,hp,H4⟩
theorem cR {xbs:List Nat} {mb:Nat} {l:AF.bG} {m:List (ByteArray×Value)} (hp:m.Perm (l.map (jz xbs))) (H:aG (bT aS mb m::F) h):aG (co xbs mb l::F) h:=by
 refine bD.2 ⟨m,aG.shut (m:=[bT aS mb m,lY (m.Perm (l.map (jz xbs)))]) ?_⟩
 have H2:aG (lY (m.Perm (l.map (jz xbs)))::bT aS mb m::F) h:=cE.2 ⟨hp,H⟩
 exact H2.mv 1
theorem ku {xbs fbs:List Nat} {ds:List AF.cu} {i:Nat} {d:AF.cu} {fb:Nat} (H:aG (cQ xbs fbs ds::F) h) (hd:ds[i]? = some d) (hf:fbs[i]? = some fb) (hu:AF.Up d.now) :
  ∃ (nb bb:Nat) (a:Option Addr) (c:Nat) (es:Array MapEntry),h[fb]? = some (li nb bb a d.pend.length c)∧eR h (some nb) es∧es.size=d.now.length∧
    ∀ n:ByteArray,∃ f,Instr.findNow .string (.string n) es.toList 0=some f∧f.map (·.2)=(AF.of d.now n).map fun x=>aM (xbs.getD x 0):=by
 obtain ⟨nb,bb,a,c,H2⟩:=i7 H hd hf
 obtain ⟨m,hp,H3⟩:=eN (H2.mv 1)
 obtain ⟨es,clock,hm,hes⟩:=gG H3
 refine ⟨nb,bb,a,c,es,H2.get,hes,?_,fun n=>?_⟩
 · rw [hm.size,hp.length_eq,aq]
 · obtain ⟨f,hf,hl,_⟩:=hm.find n;exact ⟨f,hf,by rw [hl,vb hp hu]⟩
end
section
variable {b:Nat} {A:AF.FS} {q:rp} {F:List aF} {h:Heap}
theorem jZ {xs:List Nat} {o:Option Nat} {f:Option (Nat×Value)} {K:Option Addr→Prop} (hl:f.map (·.2)=o.map fun x=>aM (xs.getD x 0)) (hK:K (o.map fun x=>⟨xs.getD x 0,0,none⟩)) :
  DP ((Option.map (fun x=>x.2) f).getD (.pointer none)) K:=by
 rw [hl]
 cases o with
 | none=>exact ⟨none,rfl,hK⟩
 | some x=>exact ⟨_,rfl,hK⟩
theorem kZ {dir name:ByteArray} (W:A.WF) (hq:lu A q) (H:aG (wT b A q F) h) (hd:dir.size<4611686018427387904) (hn:name.size<4611686018427387904) :
  aE prog 103 [aM b,.string dir,.string name] h fun v h'=>aG (wT b A q F) h'∧
   ((∃ (i x:Nat) (d:AF.cu) (y:AF.cV) (fb xb:Nat),A.entry dir name=.ok (i,x)∧A.dirs[i]? = some d∧q.fbs[i]? = some fb∧A.files[x]? = some y∧q.xbs[x]? = some xb∧v=.tuple #[aM fb,aM xb,.int .i64 0])∨
    ∃ e:Nat,A.entry dir name=.error e∧e≠0∧v=.tuple #[.pointer none,.pointer none,.int .i64 (e:Int)]):=by
 apply CL.ap
 unfold Ho
 refine aW H fun b0 h1 H1=>?_
 have hr:cv h1 (some ⟨b0,0,none⟩) ([name].map Value.string):=by
  intro j v hv;rw [dH H1.get]
  cases j with
  | zero=>exact hv
  | succ j=>simp at hv
 refine (gA (ss:=[name]) W hq (H1.drop) hr rfl (show 1<1000 by omega) hd (fun s hs=>by simp at hs; rw [hs]; exact hn)).mono ?_
 rintro v h2 ⟨rfl,hcase⟩
 have H2:=H1.drop
 rcases hcase with ⟨i,d,fb,he,hdi,hfi,rfl⟩ | ⟨e,he,hne,rfl⟩
 · have w:=W.each d (aj hdi);obtain ⟨nb,bb,a,c,es,hfb,hes,hsz,hlk⟩:=ku (H2.mv 3) hdi hfi w.ok.up;obtain ⟨f,hf,hl⟩:=hlk name;refine ⟨some ⟨fb,0,none⟩,0,rfl,?_⟩;rw [show ((0:Int)==0)=true from rfl,ae];simp only [aK,aP];have rd:∀ K:Value→Prop,K (.map (some nb))→Ld h2 ⟨fb,0,none⟩ K:=fun K hK=>⟨_,by rw [cm hfb]; rfl,hK⟩
   refine rd _ ?_;rw [cM];refine ⟨es,hes,f,hf,jZ hl ?_⟩
   cases ho:AF.of d.now name with
   | none=>
     refine ⟨H2,.inr ⟨62,?_,by omega,rfl⟩⟩;unfold AF.FS.entry;rw [he];simp only [AF.iR hdi,ho]
   | some x=>
     show bif (false:Bool) then _ else _
     rw [ab,show ((0:Int)!=0)=false from rfl,ab];refine rd _ ?_;rw [cM];refine ⟨es,hes,f,hf,jZ hl ?_⟩;rw [ho];have hx:=(w.ok.each _ (AF.jc ho)).1;obtain ⟨y,xb,h1,h3,h4⟩:=vr hq hx;refine ⟨H2,.inl ⟨i,x,d,y,fb,xb,?_,hdi,hfi,h1,h3,?_⟩⟩
     · unfold AF.FS.entry;rw [he];simp only [AF.iR hdi,ho]
     · show Value.tuple #[aM fb,aM (q.xbs.getD x 0),.int .i64 0]=_;rw [h4]
 · refine ⟨none,(e:Int),rfl,?_⟩;have e0:((e:Int)==0)=false:=by
    rw [beq_eq_false_iff_ne]
    rcases hne with rfl | rfl | rfl <;> decide
   have e1:((e:Int)!=0)=true:=by rw [bne,e0]; rfl
   rw [e0,ab,e1,ae];refine ⟨H2,.inr ⟨e,?_,by omega,rfl⟩⟩;unfold AF.FS.entry;rw [he]
theorem uW (W:A.WF) : -1≤dP A.fuse∧dP A.fuse≤9223372036854775807:=by
 unfold dP
 cases hf:A.fuse with
 | none=>exact ⟨by decide,by decide⟩
 | some n=>
   have:=W.fuse n hf;simp only;omega
theorem jk {md:Nat} (W:A.WF) (hs:A.steps<1099511627776) (H:aG (cA b A md::F) h):aE prog 100 [aM b] h fun v h'=>
  (A.fuse=some 0∧v=.int .i64 60∧aG (cA b { A with off:=true } md::F) h')∨(A.fuse≠some 0∧v=.int .i64 0∧aG (cA b A.stepOn md::F) h'):=by
 refine (xO H (uW W) ⟨by omega,by omega⟩).mono ?_
 rintro v h1 (⟨h0,rfl,H1⟩ | ⟨h0,rfl,H1⟩)
 · refine .inl ⟨?_,rfl,?_⟩
   · unfold dP at h0
     cases hf:A.fuse with
     | none=>rw [hf] at h0; cases h0
     | some n=>rw [hf] at h0; simp only at h0; congr; omega
   · exact H1
 · refine .inr ⟨?_,rfl,?_⟩
   · intro hf;rw [hf] at h0;exact h0 rfl
   · have e1:(if dP A.fuse<0 then -1 else dP A.fuse - 1)=dP (A.fuse.map (· - 1)):=by
      cases hf:A.fuse with
      | none=>rfl
      | some n=>
        rw [hf] at h0;have h2:(n:Int)≠0:=h0;rw [am (show ¬ dP (some n)<0 from by show ¬ ((n:Int)<0); omega)];show (n:Int) - 1=((n - 1:Nat):Int)
        omega
     rw [e1] at H1;exact H1
end
theorem yE (xbs:List Nat) (o:AF.Op) (v:Value):iT (lF xbs o v):=by
 cases o with
 | create n f=>
   refine iT.pZ fun q=>iT.many fun A hA=>?_;simp only [aA,not_mem_nil,or_false] at hA
   rcases hA with rfl | rfl | rfl
   · exact iT.lY _
   · exact lT _ _
   · exact lT _ _
 | rename a b=>
   refine iT.pZ fun q=>iT.many fun A hA=>?_;simp only [aA,not_mem_nil,or_false] at hA
   rcases hA with rfl | rfl | rfl
   · exact iT.lY _
   · exact lT _ _
   · exact lT _ _
 | remove a=>
   refine iT.pZ fun q=>iT.many fun A hA=>?_;simp only [aA,not_mem_nil,or_false] at hA
   rcases hA with rfl | rfl
   · exact iT.lY _
   · exact lT _ _
theorem vC {xbs:List Nat} {mb n:Nat} {l:AF.bG} {o:AF.Op} {v:Value} {F:List aF} {h:Heap} (H:aG (co xbs mb l::lF xbs o v::F) h) (hk:AF.Ok n l) (hf:AF.Fits n l o) :
  du prog v [.map (some mb)] h fun r h'=>r=.tuple #[]∧aG (co xbs mb (AF.does l o)::lF xbs o v::F) h':=by
 have Hd:=((H.mv 1).dup (yE xbs o v)).mv 2
 obtain ⟨m,hp,H1⟩:=eN Hd
 cases o with
 | create k x=>
   obtain ⟨⟨b1,b2⟩,H2⟩:=bD.1 (H1.mv 1);obtain ⟨hv,H3⟩:=cE.1 H2.open;subst hv;have H4:aG (bT aS mb m::ro b1 (.cells #[aM (xbs.getD x 0)] 178 (0,0))::ro b2 (.cells #[.string k] 9 (0,0))::_) h:=H3.mv 2;refine gu ?_;refine aE.mono (xN (bx:=b1) (bn:=b2) H4 (H4.mv 1).getRo (H4.mv 2).getRo) ?_;rintro r h' ⟨rfl,H5⟩;exact ⟨rfl,cR (sh hp hk.up k x) ((H5.mv 1).drop.mv 1).drop⟩
 | remove k=>
   obtain ⟨b2,H2⟩:=bD.1 (H1.mv 1);obtain ⟨hv,H3⟩:=cE.1 H2.open;subst hv;have H4:aG (bT aS mb m::ro b2 (.cells #[.string k] 9 (0,0))::_) h:=H3.mv 1;refine gu ?_;refine aE.mono (xL (bn:=b2) H4 (H4.mv 1).getRo) ?_;rintro r h' ⟨rfl,H5⟩;exact ⟨rfl,cR (si hp k) (H5.mv 1).drop⟩
 | rename k k2=>
   obtain ⟨⟨b1,b2⟩,H2⟩:=bD.1 (H1.mv 1);obtain ⟨hv,H3⟩:=cE.1 H2.open;subst hv;have H4:aG (bT aS mb m::ro b1 (.cells #[.string k] 9 (0,0))::ro b2 (.cells #[.string k2] 9 (0,0))::_) h:=H3.mv 2;obtain ⟨x,hx⟩:=Option.isSome_iff_exists.1 hf.2.2;refine gu ?_;refine aE.mono (xM (ba:=b1) (bb:=b2) (a:=k) (b:=k2) (p:=some ⟨xbs.getD x 0,0,none⟩) H4 (H4.mv 1).getRo (fun h' H'=>(H'.mv 2).getRo) (by rw [vb hp hk.up,hx]; rfl)) ?_;rintro r h' ⟨rfl,H5⟩;have hp2:=sh (si hp k) (hk.up.drop k) k2 x;refine ⟨rfl,?_⟩;have e:AF.does l (.rename k k2)=AF.ins k2 x (AF.drop l k):=by
    simp only [AF.does,hx]
   rw [e];exact cR hp2 ((H5.mv 1).drop.mv 1).drop
theorem ft.pairs {es:Array MapEntry} {clock:Nat} {m:List (ByteArray×Value)} (hm:ft aS es clock m):es.toList.map (fun e:MapEntry=>(kS e.key,e.val))=m:=by
 have:=congrArg (List.map fun p:Value×Value=>(kS p.1,p.2)) hm.2
 simpa [map_map,Function.comp_def,aS,kS] using this
theorem vH {P:Program} {ty:TypeId} {p mb:Nat} {m:List (ByteArray×Value)} {es:Array MapEntry} {clock:Nat} (hm:ft aS es clock m) {G:List (ByteArray×Value)→List aF} {End:Heap→Prop} {Body:(Unit→Heap→Prop)→Value→Heap→Prop} {h:Heap}
  (start:aG (pt p (.mapIter (some mb) clock #[] clock)::pt mb (.map es clock)::G []) h)
  (fin:∀ done h',done.Perm m→aG (pt mb (.map es clock)::G done) h'→End h')
  (body:∀ (o:Obj) done k v h' (again:Unit→Heap→Prop),(∃ rest,(done++(k,v)::rest).Perm m)→aG (pt p o::pt mb (.map es clock)::G done) h'→
   (∀ h'',aG (pt p o::pt mb (.map es clock)::G (done++[(k,v)])) h''→again () h'')→Body again (.tuple #[.string k,v]) h') :
  bf (fun again (_:Unit) h3=>bB P (Instr.next (.pointer (some ⟨p,0,none⟩)) false ty) h3 fun r2 h4=>(r2=.tuple #[.bool false]∧End h4)∨
   (∃ k0 x1:Value,r2=.tuple #[.bool true,k0,x1]∧bB P (Instr.entry (.pointer (some ⟨p,0,none⟩))) h4 fun r3 h5=>Body again r3 h5)) () h:=by
 have hn:=hm.1.2.1
 refine ⟨fun _ h2=>∃ seen done c0,aG (pt p (.mapIter (some mb) clock seen c0)::pt mb (.map es clock)::G (done.map fun e:MapEntry=>(kS e.key,e.val))) h2∧dV es seen done∧clock≤c0,
  fun _ h2=>dS ⟨p,0,none⟩ h2,⟨#[],[],clock,start,dV.start es,ax _⟩,?_⟩
 rintro _ h2 ⟨seen,done,c0,H2,hw,hc⟩
 have hmb:=(H2.mv 1).get
 refine oW H2 hmb hm.1.1 hc ?_ ?_
 · intro h0;refine .inl ⟨rfl,fin (done.map fun e:MapEntry=>(kS e.key,e.val)) h2 ?_ H2.drop⟩;rw [← hm.pairs];exact (hw.fin h0).map _
 · intro e he h3 H3;have hmb3:=(H3.mv 1).get;have hee:=dV.mem he;refine .inr ⟨_,_,rfl,?_⟩;refine mV H3 hmb3 hee hn ?_;rw [hm.strKey hee];refine body (.mapIter (some mb) clock (seen.push e.born) clock) (done.map fun e:MapEntry=>(kS e.key,e.val)) (kS e.key) e.val h3 _ ?_ H3 fun h4 H4=>⟨⟨seen.push e.born,done++[e],clock,?_,hw.step hn he,ax _⟩,?_⟩
   · refine ⟨(leftOf es (seen.push e.born)).toList.map fun e:MapEntry=>(kS e.key,e.val),?_⟩;have hp:=(hw.step hn he).perm.map fun e:MapEntry=>(kS e.key,e.val)
     rw [hm.pairs] at hp;simpa using hp
   · rw [map_append];exact H4
   · have a1:dS ⟨p,0,none⟩ h4=(leftOf es (seen.push e.born)).size:=by
      unfold dS;simp only [H4.get,(H4.mv 1).get]
     have a2:dS ⟨p,0,none⟩ h2=(leftOf es seen).size:=by
      unfold dS;simp only [H2.get,hmb]
     show dS ⟨p,0,none⟩ h4<dS ⟨p,0,none⟩ h2;rw [a1,a2];exact dV.less hn he
theorem iB {l m:List Nat} (h:l.Perm m):l.sum=m.sum:=by
 induction h with
 | nil=>rfl
 | cons x _ ih=>simp [ih]
 | swap x y l=>simp; omega
 | trans _ _ h1 h2=>exact h1.trans h2
theorem nh {α:Type} (f:α→List Nat) (g:Nat→Nat):∀ l:List α,((l.flatMap f).map g).sum=(l.map fun d=>((f d).map g).sum).sum
 | []=>rfl
 | a::l=>by rw [flatMap_cons,map_append,sum_append,nh f g l,map_cons,sum_cons]
def ml (A:AF.FS) (l:AF.bG) (k:ByteArray):Nat:=match AF.of l k with
 | some x=>(A.X x).b.length
 | none=>0
def uw (A:AF.FS) (l:AF.bG):Nat:=(l.map fun p=>(A.X p.2).b.length).sum
def ly (A:AF.FS) (k:ByteArray):Nat:=match A.at k with
 | some i=>uw A (A.D i).now
 | none=>0
theorem wK {α:Type} {l:List α} (hn:l.Nodup) {i j:Nat} {x:α} (h1:l[i]? = some x) (h2:l[j]? = some x):i=j:=by
 obtain ⟨hi,e1⟩:=ak.1 h1
 obtain ⟨hj,e2⟩:=ak.1 h2
 have:=List.pairwise_iff_getElem.1 hn
 rcases Nat.lt_trichotomy i j with h | h | h
 · exact absurd (e1.trans e2.symm) (this i j hi hj h)
 · exact h
 · exact absurd (e2.trans e1.symm) (this j i hj hi h)
theorem FN {A:AF.FS} (W:A.WF) {i:Nat} {d:AF.cu} (hd:A.dirs[i]? = some d):A.at d.name=some i:=by
 cases ha:A.at d.name with
 | none=>exact absurd rfl (AF.og ha d (aj hd))
 | some j=>
   obtain ⟨e,he,hn⟩:=AF.oe ha;have hnd:=nz W;have h1:(A.dirs.map (·.name))[i]? = some d.name:=by rw [List.getElem?_map,hd]; rfl
   have h2:(A.dirs.map (·.name))[j]? = some d.name:=by rw [List.getElem?_map,he,← hn]; rfl
   rw [wK hnd h1 h2]
theorem rK {A:AF.FS} (W:A.WF) {i:Nat} {d:AF.cu} (hd:A.dirs[i]? = some d):ly A d.name=uw A d.now:=by
 unfold ly
 rw [FN W hd]
 simp only [AF.iR hd]
theorem Aq {A:AF.FS} (W:A.WF):A.used=((A.dirs.map (·.name)).map (ly A)).sum:=by
 unfold AF.FS.used AF.FS.idx
 rw [nh,map_map]
 congr 1
 apply map_congr_left
 intro d hd
 obtain ⟨i,hi⟩:=getElem?_of_mem hd
 show _=ly A d.name
 rw [rK W hi,map_map]
 rfl
theorem xS {A:AF.FS} {q:rp} (W:A.WF) (hq:lu A q):(q.m.map fun e=>ly A e.1).sum=A.used:=by
 rw [Aq W,← iB ((jB hq).map (ly A)),map_map]
 rfl
theorem wq {A:AF.FS} {l:AF.bG} (hu:AF.Up l):((l.map (·.1)).map (ml A l)).sum=uw A l:=by
 unfold uw
 rw [map_map]
 congr 1
 apply map_congr_left
 intro p hp
 show ml A l p.1=_
 unfold ml
 rw [AF.uN hu.nodup (f:=p.2) hp]
theorem ye {A:AF.FS} {xbs:List Nat} {l:AF.bG} {m:List (ByteArray×Value)} (hu:AF.Up l) (hp:m.Perm (l.map (jz xbs))):(m.map fun e=>ml A l e.1).sum=uw A l:=by
 rw [← wq hu,iB (hp.map fun e=>ml A l e.1),map_map,map_map]
 rfl
section
variable {b:Nat} {A:AF.FS} {q:rp} {F:List aF} {h:Heap}
theorem qX {xbs:List Nat} {fs:List AF.cV} {x:Nat} {y:AF.cV} {xb:Nat} (H:aG (bY xbs fs::F) h) (hx:fs[x]? = some y) (hb:xbs[x]? = some xb):∃ (a:Option Addr) (c:Nat),h[xb]? = some (.cells #[.slice a y.b.length c,.int .i64 (y.safe:Int)] 180 (0,0))∧cv h a (y.b.map nv):=by
 obtain ⟨r,H2⟩:=bD.1 (gU H hx hb)
 have H3:=H2.open
 exact ⟨r.1,r.2,H3.get,aH (H3.mv 1)⟩
theorem m9 {room used0 steps fuse:Int} {off:Bool} (W:A.WF) (hq:lu A q) (H:aG (iX b room used0 steps fuse off q.md::bT aS q.md q.m::bY q.xbs A.files::cQ q.xbs q.fbs A.dirs::F) h) :
  aE prog 110 [aM b] h fun v h'=>v=.tuple #[]∧aG (iX b room (A.used:Int) steps fuse off q.md::bT aS q.md q.m::bY q.xbs A.files::cQ q.xbs q.fbs A.dirs::F) h':=by
 apply CF.ap
 unfold Hk
 simp only [aK,aP]
 have hu:=W.used_le
 refine ct (i:=1) (v:=.int .i64 0) (c':=#[.int .i64 room,.int .i64 0,.int .i64 steps,.int .i64 fuse,.bool off,.map (some q.md)]) H (by show 1<6; decide) rfl fun h1 H1=>?_
 refine dX (v:=.map (some q.md)) H1 rfl ?_
 rw [cM]
 obtain ⟨es,clock,hm,H2⟩:=fZ (H1.mv 1)
 refine kL (k:=9) (e:=170) (by kernel_rfl) H2 H2.get fun p h2 H3=>?_
 rw [bo]
 refine vH (mb:=q.md) hm (G:=fun done=>iX b room (((done.map fun e:ByteArray×Value=>ly A e.1).sum:Nat):Int) steps fuse off q.md::bY q.xbs A.files::cQ q.xbs q.fbs A.dirs::F) ?_ ?_ ?_
 · exact H3
 · intro done h3 hp H4;refine ⟨trivial,?_⟩;have e:(done.map fun e:ByteArray×Value=>ly A e.1).sum=A.used:=by rw [iB (hp.map fun e=>ly A e.1),xS W hq]
   rw [e] at H4;exact (ey hm H4).mv 1
 · intro o done k v h3 again ⟨rest,hrest⟩ H4 hagain;have hmem:(k,v)∈q.m:=hrest.mem_iff.1 (by simp);obtain ⟨i,d,fb,hdi,hfi,rfl,rfl⟩:=(jA hq).1 hmem;have w:=W.each d (aj hdi);have htot:(done.map fun e:ByteArray×Value=>ly A e.1).sum+uw A d.now≤A.used:=by
    have:=iB (hrest.map fun e:ByteArray×Value=>ly A e.1);rw [xS W hq,map_append,sum_append,map_cons,sum_cons,rK W hdi] at this;omega
   refine ⟨_,some ⟨fb,0,none⟩,rfl,?_⟩;simp only [aK,aP];obtain ⟨nb,bb,a,c,H5⟩:=i7 (H4.mv 4) hdi hfi;refine gd (v:=.map (some nb)) H5.get rfl ?_;rw [cM];obtain ⟨m2,hp2,H6⟩:=eN (H5.mv 1);obtain ⟨es2,clock2,hm2,H7⟩:=fZ H6;refine kL (k:=9) (e:=178) E4 H7 H7.get fun p2 h4 H8=>?_;rw [bo];refine vH (mb:=nb) hm2 (G:=fun done2=>iX b room (((done.map fun e:ByteArray×Value=>ly A e.1).sum+(done2.map fun e:ByteArray×Value=>ml A d.now e.1).sum:Nat):Int) steps fuse off q.md::bY q.xbs A.files::
    pt fb (li nb bb a d.pend.length c)::co q.xbs bb d.base::fR (lF q.xbs) 182 a d.pend.length c d.pend::lM q.xbs q.fbs A.dirs i::pt p o::pt q.md (.map es clock)::F) ?_ ?_ ?_
   · exact H8.ordT 10 [0,1,8,9,2,3,4,5,6,7]
   · intro done2 h5 hp3 H9;have e:(done2.map fun e:ByteArray×Value=>ml A d.now e.1).sum=ly A d.name:=by
      rw [iB (hp3.map fun e=>ml A d.now e.1),ye w.ok.up hp2,rK W hdi]
     rw [e] at H9;refine hagain h5 ?_;rw [map_append,sum_append,map_cons,List.map_nil,sum_cons,List.sum_nil,Nat.add_zero];have H10:=cR hp2 (ey hm2 H9);have H11:=lL (d:=d) hdi hfi (H10.ordT 9 [3,0,4,5,6,7,8,1,2]);rw [jp hdi] at H11;exact H11.ordT 5 [1,2,3,4,0]
   · intro o2 done2 k2 v2 h5 again2 ⟨rest2,hrest2⟩ H9 hagain2;have hmem2:(k2,v2)∈d.now.map (jz q.xbs):=hp2.mem_iff.1 (hrest2.mem_iff.1 (by simp));obtain ⟨pr,hpr,epr⟩:=List.mem_map.1 hmem2;obtain ⟨k3,x⟩:=pr;simp only [jz,Prod.mk.injEq] at epr;obtain ⟨rfl,rfl⟩:=epr;obtain ⟨y,xb,hy,hxb,hgd⟩:=vr hq (w.ok.each _ hpr).1;have hlen:ml A d.now k3=y.b.length:=by
      unfold ml;rw [AF.uN w.ok.up.nodup hpr];simp only [AF.qf hy]
     have htot2:(done2.map fun e:ByteArray×Value=>ml A d.now e.1).sum+y.b.length≤uw A d.now:=by
      have:=iB (hrest2.map fun e:ByteArray×Value=>ml A d.now e.1);rw [ye w.ok.up hp2,map_append,sum_append,map_cons,sum_cons,hlen] at this;omega
     refine ⟨_,some ⟨xb,0,none⟩,by rw [hgd]; rfl,?_⟩;simp only [aK,aP];refine dX (v:=.int .i64 (((done.map fun e:ByteArray×Value=>ly A e.1).sum+(done2.map fun e:ByteArray×Value=>ml A d.now e.1).sum:Nat):Int)) (H9.mv 2) rfl ?_;rw [aL];obtain ⟨ya,yc,hyb,_⟩:=qX (H9.mv 3) hy hxb;refine gd (v:=.slice ya y.b.length yc) hyb rfl ?_;rw [aI,← Int.natCast_add,dh (by omega)];refine ct (i:=1) (c':=#[.int .i64 room,.int .i64 (((done.map fun e:ByteArray×Value=>ly A e.1).sum+(done2.map fun e:ByteArray×Value=>ml A d.now e.1).sum+y.b.length:Nat):Int),.int .i64 steps,.int .i64 fuse,.bool off,.map (some q.md)]) (H9.mv 2) (by show 1<6; decide) rfl fun h6 H10=>?_;refine hagain2 h6 ?_;rw [map_append,sum_append,map_cons,List.map_nil,sum_cons,List.sum_nil,Nat.add_zero,hlen,← Nat.add_assoc];exact H10.ordT 3 [1,2,0]
end
theorem Jp:prog.underlying 175=some (.slice 182):=by kernel_rfl
theorem Fe:d8 prog 175=true:=by kernel_rfl
theorem Fy:gj prog 182 8=true:=by kernel_rfl
section
variable {b:Nat} {A:AF.FS} {q:rp} {F:List aF} {h:Heap}
theorem pj {B:AF.FS} (hq:lu A q) (hn:B.dirs.map (·.name)=A.dirs.map (·.name)) (hf:B.files.length=A.files.length):lu B q:=by
 have hl:B.dirs.length=A.dirs.length:=by have:=congrArg List.length hn; simpa using this
 refine ⟨hq.1.trans (.of_eq ?_),by rw [hq.2.1,hl],by rw [hq.2.2,hf]⟩
 apply List.ext_getElem?
 intro i
 rw [getElem?_zipWith,getElem?_zipWith]
 have h1:(B.dirs.map (·.name))[i]? = (A.dirs.map (·.name))[i]? := by rw [hn]
 rw [List.getElem?_map,List.getElem?_map] at h1
 cases ha:A.dirs[i]? with
 | none=>
   rw [ha] at h1
   cases hb:B.dirs[i]? with
   | none=>rfl
   | some d=>rw [hb] at h1; cases h1
 | some e=>
   rw [ha] at h1
   cases hb:B.dirs[i]? with
   | none=>rw [hb] at h1; cases h1
   | some d=>
     rw [hb] at h1;simp only [Option.map_some,Option.some.injEq] at h1
     cases q.fbs[i]? with
     | none=>rfl
     | some fb=>simp only [h1]
theorem jO {ds:List AF.cu} {i:Nat} {g:AF.cu→AF.cu} (hg:∀ d,(g d).name=d.name):(ds.modify i g).map (·.name)=ds.map (·.name):=by
 apply List.ext_getElem?
 intro j
 rw [List.getElem?_map,List.getElem?_map,gH]
 cases ds[j]? with
 | none=>rfl
 | some d=>
   by_cases h:i=j
   · simp [h,hg]
   · simp [h]
theorem ob (hq:lu A q) (i:Nat) (o:AF.Op):lu (A.did i o) q:=pj hq (jO fun d=>rfl) rfl
theorem ne {i:Nat} {d:AF.cu} {fb:Nat} {o:AF.Op} {fv:Fn} {fp fc:Array Value} (W:A.WF) (W2:(A.stepOn.did i o).WF) (hq:lu A q) (hd:A.dirs[i]? = some d) (hf:q.fbs[i]? = some fb) (hfit:AF.Fits A.files.length d.now o) (hs:A.steps<1099511627776)
  (H:aG (wT b A q (lF q.xbs o (.func fv fp fc)::F)) h) :
  aE prog 101 [aM b,aM fb,.func fv fp fc] h fun v h'=>v=.int .i64 ((A.step fun g=>g.did i o).2:Int)∧aG (wT b (A.step fun g=>g.did i o).1 q F) h':=by
 apply CN.ap
 unfold Hp
 refine (jk W hs H).mono ?_
 rintro v h1 (⟨h0,rfl,H1⟩ | ⟨h0,rfl,H1⟩)
 · rw [aL,show ((60:Int)!=0)=true from rfl,ae];have e:(A.step fun g=>g.did i o)=({ A with off:=true },60):=by unfold AF.FS.step; rw [an h0]
   rw [e];exact ⟨rfl,(H1.mv 4).drop⟩
 · rw [aL,show ((0:Int)!=0)=false from rfl,ab];simp only [aK,aP];have e:(A.step fun g=>g.did i o)=(A.stepOn.did i o,0):=by unfold AF.FS.step; rw [am h0]
   rw [e];have w:=W.each d (aj hd);obtain ⟨nb,bb,a,c,H2⟩:=i7 (H1.mv 3) hd hf;refine gd (v:=.map (some nb)) H2.get rfl ?_;rw [cM];have H3:aG (co q.xbs nb d.now::lF q.xbs o (.func fv fp fc)::pt fb (li nb bb a d.pend.length c)::co q.xbs bb d.base::fR (lF q.xbs) 182 a d.pend.length c d.pend::lM q.xbs q.fbs A.dirs i::
    cA b A.stepOn q.md::bT aS q.md q.m::bY q.xbs A.files::F) h1:=H2.ordT 9 [1,8,0,2,3,4,5,6,7]
   refine (vC H3 w.ok hfit).mono ?_;rintro r h2 ⟨rfl,H4⟩;refine ⟨rfl,?_⟩;refine dX (i:=2) (v:=.slice a d.pend.length c) (H4.mv 2) rfl ?_;rw [aI];refine aW H4 fun b0 h3 H5=>?_;have hpl:=w.pend;have hr:cv h3 (some ⟨b0,0,none⟩) [.func fv fp fc]:=by
    intro j v hv;rw [dH H5.get]
    cases j with
    | zero=>exact hv
    | succ j=>simp at hv
   have H6:aG (fR (lF q.xbs) 182 a d.pend.length c d.pend::lF q.xbs o (.func fv fp fc)::pt b0 (.cells #[.func fv fp fc] 182 (0,0))::co q.xbs nb (AF.does d.now o)::pt fb (li nb bb a d.pend.length c)::co q.xbs bb d.base::lM q.xbs q.fbs A.dirs i::
    cA b A.stepOn q.md::bT aS q.md q.m::bY q.xbs A.files::F) h3:=H5.ordT 10 [5,2,0,1,3,4,6,7,8,9]
   refine CV (b:=8) Jp Fe Fy (by omega) H6 rfl hr fun a2 c2 h4 H7=>?_;rw [aI];refine ct (b:=fb) (i:=2) (c':=#[.map (some nb),.map (some bb),.slice a2 (d.pend.length+1) c2]) (H7.mv 3) (by show 2<3; decide) rfl fun h5 H8=>?_;have H9:aG (pt fb (li nb bb a2 (d.did o).pend.length c2)::co q.xbs nb (d.did o).now::co q.xbs bb (d.did o).base::fR (lF q.xbs) 182 a2 (d.did o).pend.length c2 (d.did o).pend::lM q.xbs q.fbs A.dirs i::
    cA b A.stepOn q.md::bT aS q.md q.m::bY q.xbs A.files::F) h5:=by
    have e2:(d.did o).pend.length=d.pend.length+1:=by
     show (d.pend++[o]).length=_;simp
    rw [e2];exact ((H8.mv 2).drop).ordT 8 [0,2,3,1,4,5,6,7]
   have H10:=lL hd hf H9;have e3:A.dirs.set i (d.did o)=(A.stepOn.did i o).dirs:=(cT (l:=A.dirs) (fun d:AF.cu=>d.did o) hd).symm;rw [e3] at H10;refine (m9 (A:=A.stepOn.did i o) W2 (ob hq i o) (H10.ordT 4 [1,2,3,0])).mono ?_;rintro r h6 ⟨rfl,H11⟩;exact ⟨rfl,rfl,H11⟩
end
theorem wu {l m:List aF} (h:l.Perm m) {r:eL} (H:ie l r):ie m r:=by
 induction h generalizing r with
 | nil=>exact H
 | cons x _ ih=>exact cY (fun _ h=>h) (fun _ h=>ih h) H
 | swap x y l=>exact oy H
 | trans _ _ h1 h2=>exact h2 (h1 H)
theorem qJ {l m F:List aF} {h:Heap} (hp:l.Perm m) (H:aG (bP l::F) h):aG (bP m::F) h:=H.imp fun r hr=>wu hp hr
theorem mm (d:AF.cu):∀ ds:List AF.cu,∃ k,k≤ds.length∧AF.cJ d ds=ds.take k++d::ds.drop k
 | []=>⟨0,ax _,rfl⟩
 | e::ds=>by
   unfold AF.cJ;split
   · exact ⟨0,aw _,rfl⟩
   · obtain ⟨k,hk,he⟩:=mm d ds;exact ⟨k+1,by simp only [ar]; omega,by rw [he]; rfl⟩
theorem qj {α β γ:Type} (E:α→β→γ) (x:α) (y:β) (xs:List α) (ys:List β) (k:Nat) (hl:xs.length=ys.length):(zipWith E (xs.take k++x::xs.drop k) (ys.take k++y::ys.drop k)).Perm (E x y::zipWith E xs ys):=by
 rw [zipWith_append (by rw [au,au,hl]),zipWith_cons_cons]
 refine List.perm_middle.trans (.cons _ (.of_eq ?_))
 conv=>rhs; rw [← take_append_drop k xs,← take_append_drop k ys]
 rw [zipWith_append (by rw [au,au,hl])]
theorem Jq:prog.underlying 87=some (.map 9 170):=by kernel_rfl
section
variable {b:Nat} {A:AF.FS} {q:rp} {F:List aF} {h:Heap}
theorem qG {xbs:List Nat} {mb:Nat} (H:aG (pt mb (.map #[] 0)::F) h):aG (co xbs mb []::F) h:=cR (m:=[]) (.refl _) (tf aS H)
theorem uc {dir:ByteArray} (W:A.WF) (hs:A.steps<1099511627776) (hd:dir.size<4611686018427387904) (H:aG (bV b A::F) h) :
  aE prog 49 [aM b,.string dir] h fun v h'=>v=.int .i64 ((A.mkdir dir).2:Int)∧aG (bV b (A.mkdir dir).1::F) h':=by
 obtain ⟨q,hq,H1⟩:=cP H
 apply Er.ap
 unfold IY
 refine (gA (ss:=[]) (a:=none) (c:=0) W hq H1 rfl rfl (show 0<1000 by omega) hd (by simp)).mono ?_
 rintro v h1 ⟨rfl,hcase⟩
 rcases hcase with ⟨i,d,fb,he,hdi,hfi,rfl⟩ | ⟨e,he,hne,rfl⟩
 · refine ⟨_,0,rfl,?_⟩;rw [show ((0:Int)==0)=true from rfl,ae];unfold AF.FS.mkdir;rw [he];exact ⟨rfl,bu q hq H1⟩
 · refine ⟨none,(e:Int),rfl,?_⟩;have e0:e≠0:=by omega
   rw [kT e0,ab];by_cases h61:e=61
   · subst h61;rw [show (((61:Nat):Int)!=61)=false from rfl,ab];simp only [aK];refine dX (v:=.map (some q.md)) H1 rfl ?_;rw [cM];obtain ⟨es,clock,hm,hes⟩:=gG (H1.mv 1);refine ⟨es,hes,?_⟩;have hml:q.m.length=A.dirs.length:=by have:=(jB hq).length_eq; simpa using this
     rw [hm.size,hml];by_cases h64:64≤A.dirs.length
     · rw [ah (show ((A.dirs.length:Int)≥64) by omega),ae];unfold AF.FS.mkdir;rw [he];simp only [if_true,an h64];exact ⟨rfl,bu q hq H1⟩
     · rw [af (show ¬ ((A.dirs.length:Int)≥64) by omega),ab];have em:A.mkdir dir=A.step fun g=>{ g with dirs:=AF.cJ ⟨dir,[],[],[]⟩ g.dirs }:=by
        unfold AF.FS.mkdir;rw [he];simp only [if_true,am h64]
       have W2:=W.mkdir dir;rw [em] at W2 ⊢;refine (jk W hs H1).mono ?_;rintro v h2 (⟨h0,rfl,H2⟩ | ⟨h0,rfl,H2⟩)
       · rw [aL,show ((60:Int)!=0)=true from rfl,ae];unfold AF.FS.step;rw [an h0];exact ⟨rfl,bu (A:={ A with off:=true }) q hq H2⟩
       · rw [aL,show ((0:Int)!=0)=false from rfl,ab];unfold AF.FS.step at W2 ⊢;rw [am h0] at W2 ⊢;refine dX (v:=.map (some q.md)) H2 rfl ?_;rw [cM];refine aW H2 fun b0 h3 H3=>aW H3 fun b1 h4 H4=>aW H4 fun b2 h5 H5=>?_;refine gM (E:=aS) (k:=dir) Jq u9 (H5.mv 4) fun h6 H6=>?_;obtain ⟨k,hk,hins⟩:=mm ⟨dir,[],[],[]⟩ A.dirs;have hfl:A.dirs.length=q.fbs.length:=hq.2.1.symm;refine ⟨rfl,bu (A:={ A.stepOn with dirs:=AF.cJ ⟨dir,[],[],[]⟩ A.stepOn.dirs }) ⟨q.md,q.fbs.take k++b2::q.fbs.drop k,q.xbs,lR q.m dir (aM b2)⟩ ⟨?_,?_,hq.2.2⟩ ?_⟩
         · show (lR q.m dir (aM b2)).Perm (zipWith _ (AF.cJ ⟨dir,[],[],[]⟩ A.dirs) _);rw [hins];have hno:∀ p∈q.m,p.1≠dir:=by
            rintro ⟨k,v⟩ hp e;obtain ⟨i,d,fb,h1,_,h2,_⟩:=(jA hq).1 hp;exact AF.og (AF.s7 he).2 d (aj h1) (by rw [← h2]; exact e)
           refine (qk (lJ W hq)).trans ?_;rw [mW hno];exact (hq.1.cons _).trans (qj (fun (d:AF.cu) fb=>(d.name,aM fb)) ⟨dir,[],[],[]⟩ b2 A.dirs q.fbs k hfl).symm
         · show (q.fbs.take k++b2::q.fbs.drop k).length=(AF.cJ ⟨dir,[],[],[]⟩ A.dirs).length;rw [(AF.gV _ _).length_eq];simp only [ao,au,ar,length_drop];omega
         · have hdir:aG (cQ q.xbs (q.fbs.take k++b2::q.fbs.drop k) (AF.cJ ⟨dir,[],[],[]⟩ A.dirs)::bT aS q.md (lR q.m dir (aM b2))::cA b A.stepOn q.md::bY q.xbs A.files::F) h6:=by
            have H7:aG (pt b0 (.map #[] 0)::pt b1 (.map #[] 0)::pt b2 (li b0 b1 none 0 0)::cQ q.xbs q.fbs A.dirs::bT aS q.md (lR q.m dir (aM b2))::cA b A.stepOn q.md::bY q.xbs A.files::F) h6:=H6.ordT 7 [3,2,1,6,0,4,5];have H8:=qG (xbs:=q.xbs) ((qG (xbs:=q.xbs) H7).mv 1);have H9:=jv (lF q.xbs) 182 H8;have H10:aG (sk q.xbs ⟨dir,[],[],[]⟩ b2::cQ q.xbs q.fbs A.dirs::bT aS q.md (lR q.m dir (aM b2))::cA b A.stepOn q.md::bY q.xbs A.files::F) h6:=by
             refine bD.2 ⟨⟨b0,b1,none,0⟩,aG.shut (m:=[pt b2 (li b0 b1 none 0 0),co q.xbs b0 [],co q.xbs b1 [],fR (lF q.xbs) 182 none 0 0 []]) ?_⟩;exact H9.ordT 4 [3,2,1,0]
            have H11:aG (bP (sk q.xbs ⟨dir,[],[],[]⟩ b2::zipWith (sk q.xbs) A.dirs q.fbs)::bT aS q.md (lR q.m dir (aM b2))::cA b A.stepOn q.md::bY q.xbs A.files::F) h6:=by
             exact H10.consMany
            rw [hins];exact qJ (qj (sk q.xbs) ⟨dir,[],[],[]⟩ b2 A.dirs q.fbs k hfl).symm H11
           have eu:AF.FS.used { A.stepOn with dirs:=AF.cJ ⟨dir,[],[],[]⟩ A.stepOn.dirs }=A.used:=by
            have:(AF.FS.idx { A.stepOn with dirs:=AF.cJ ⟨dir,[],[],[]⟩ A.stepOn.dirs }).Perm A.idx:=by
             show ((AF.cJ ⟨dir,[],[],[]⟩ A.dirs).flatMap _).Perm _;exact ((AF.gV _ _).flatMap_right _).trans (.of_eq rfl)
            exact iB (this.map _)
           unfold cA;rw [eu];exact hdir.ordT 4 [2,1,3,0]
   · have:((e:Int)!=61)=true:=by rw [bne_iff_ne]; omega
     rw [this,ae];unfold AF.FS.mkdir;rw [he];simp only [am h61];exact ⟨by trivial,bu q hq H1⟩
end
def qr (n:Nat) (xs ys:List Nat):Prop:=∀ x,x<n→xs.getD x 0=ys.getD x 0
theorem lG {n:Nat} {xs ys:List Nat} (hs:qr n xs ys) {mb:Nat} {l:AF.bG} (hk:∀ p∈l,p.2<n):co xs mb l=co ys mb l:=by
 have e:l.map (jz xs)=l.map (jz ys):=map_congr_left fun p hp=>by unfold jz; rw [hs p.2 (hk p hp)]
 have e2:(l.map fun p=>(p.1,aM (xs.getD p.2 0)))=l.map fun p=>(p.1,aM (ys.getD p.2 0)):=e
 unfold co
 rw [e2]
theorem AB {n:Nat} {xs ys:List Nat} (hs:qr n xs ys) {o:AF.Op} (hk:∀ x∈AF.dO o,x<n) (v:Value):lF xs o v=lF ys o v:=by
 cases o with
 | create k f=>simp only [lF,hs f (hk f (by simp [AF.dO]))]
 | rename a b=>rfl
 | remove a=>rfl
theorem kH {α β γ:Type} {E G:α→β→γ}:∀ {xs:List α} {ys:List β},(∀ x∈xs,∀ y,E x y=G x y)→zipWith E xs ys=zipWith G xs ys
 | [],ys,h=>by simp
 | x::xs,[],h=>by simp
 | x::xs,y::ys,h=>by
   rw [zipWith_cons_cons,zipWith_cons_cons,h x (by simp),kH fun z hz=>h z (aD _ hz)]
theorem uG {α:Type} {E G:α→Value→aF} {e:TypeId} {a:Option Addr} {l c:Nat} {xs:List α} (h:∀ x∈xs,∀ v,E x v=G x v):fR E e a l c xs=fR G e a l c xs:=by
 unfold fR
 congr 1
 funext vs
 rw [kH h]
theorem ww {d:AF.cu} {o:AF.Op} (ho:o∈d.pend) {x:Nat} (hx:x∈AF.dO o):x∈d.speaks:=List.mem_append.2 (.inr (List.mem_flatMap.2 ⟨o,ho,hx⟩))
theorem tK {n s:Nat} {xs ys:List Nat} (hs:qr n xs ys) {d:AF.cu} (w:d.WF n s) (fb:Nat):sk xs d fb=sk ys d fb:=by
 unfold sk
 congr 1
 funext r
 rw [lG hs fun p hp=>(w.ok.each p hp).1,lG hs fun p hp=>(w.runs.first.each p hp).1,uG fun o ho v=>AB hs (fun x hx=>AF.jo w (ww ho hx)) v]
theorem q9 {n s:Nat} {xs ys fbs:List Nat} (hs:qr n xs ys) {ds:List AF.cu} (w:∀ d∈ds,d.WF n s):cQ xs fbs ds=cQ ys fbs ds:=by
 unfold cQ
 rw [kH fun d hd fb=>tK hs (w d hd) fb]
theorem lB (xs:List Nat) (x:Nat):qr xs.length xs (xs++[x]):=fun i hi=>by
 rw [getD_eq_getElem?_getD,getD_eq_getElem?_getD,List.getElem?_append_left hi]
theorem rJ {A:AF.FS} (W:A.WF) (y:AF.cV):AF.FS.used { A with files:=A.files++[y] }=A.used:=by
 unfold AF.FS.used
 congr 1
 apply map_congr_left
 intro x hx
 have:=W.idx_lt hx
 show ((A.files++[y]).getD x default).b.length=(A.files.getD x default).b.length
 rw [getD_eq_getElem?_getD,getD_eq_getElem?_getD,List.getElem?_append_left this]
section
variable {b:Nat} {A:AF.FS} {q:rp} {F:List aF} {h:Heap}
theorem yW {xb:Nat} (H:aG (pt xb (.cells #[.slice none 0 0,.int .i64 0] 180 (0,0))::F) h):aG (tH ⟨[],0⟩ xb::F) h:=by
 refine bD.2 ⟨(none,0),aG.shut (m:=[pt xb (.cells #[.slice none 0 0,.int .i64 ((0:Nat):Int)] 180 (0,0)),aQ 5 1 none 0 0 []]) ?_⟩
 exact (bR 5 1 H).mv 1
theorem DV {b0:Nat} {e:TypeId} {v:Value} (H:aG (pt b0 (.cells #[v] e (0,0))::F) h):cv h (some ⟨b0,0,none⟩) [v]:=by
 intro j u hv
 rw [dH H.get]
 cases j with
 | zero=>exact hv
 | succ j=>simp at hv
theorem pR {dir name:ByteArray} (W:A.WF) (hs:A.steps<1099511627776) (hd:dir.size<4611686018427387904) (hn:name.size<4611686018427387904) (H:aG (bV b A::F) h) :
  aE prog 50 [aM b,.string dir,.string name] h fun v h'=>v=.int .i64 ((A.create dir name).2:Int)∧aG (bV b (A.create dir name).1::F) h':=by
 obtain ⟨q,hq,H0⟩:=cP H
 apply Eq.ap
 unfold IX
 refine aW H0 fun b0 h1 H1=>?_
 refine gd (v:=.string name) H1.get rfl ?_
 rw [aT]
 refine aW H1 fun b1 h2 H2=>?_
 have H3:aG (wT b A q (pt b0 (.cells #[.string name] 9 (0,0))::pt b1 (.cells #[.string name] 9 (0,0))::F)) h2:=H2.ordT 6 [2,3,4,5,1,0]
 refine (gA (ss:=[name]) W hq H3 (DV H2) rfl (show 1<1000 by omega) hd (fun s hs=>by simp at hs; rw [hs]; exact hn)).mono ?_
 rintro v h3 ⟨rfl,hcase⟩
 have Hd:aG (wT b A q F) h3:=(((H3.mv 5).drop).mv 4).drop
 rcases hcase with ⟨i,d,fb,he,hdi,hfi,rfl⟩ | ⟨e,he,hne,rfl⟩
 · have w:=W.each d (aj hdi);obtain ⟨nb,bb,a,c,es,hfb,hes,hsz,hlk⟩:=ku (H3.mv 3) hdi hfi w.ok.up;obtain ⟨f,hf,hl⟩:=hlk name;refine ⟨some ⟨fb,0,none⟩,0,rfl,?_⟩;rw [show ((0:Int)!=0)=false from rfl,ab];simp only [aK,aP];have rd:∀ K:Value→Prop,K (.map (some nb))→Ld h3 ⟨fb,0,none⟩ K:=fun K hK=>⟨_,by rw [cm hfb]; rfl,hK⟩
   refine rd _ ?_;rw [cM];refine gd (v:=.string name) (H3.mv 4).get rfl ?_;rw [aT];refine ⟨es,hes,f,hf,jZ hl ?_⟩;have hD:=AF.iR hdi
   cases ho:AF.of d.now name with
   | some x=>
     show bif (true:Bool) then _ else _
     rw [ae];have e:A.create dir name=(A,63):=by
      unfold AF.FS.create;rw [he];simp only [hD,ho,Option.isSome_some,if_true]
     rw [e];exact ⟨rfl,bu q hq Hd⟩
   | none=>
     show bif (false:Bool) then _ else _
     rw [ab];refine rd _ ?_;rw [cM];refine ⟨es,hes,?_⟩;rw [hsz];by_cases h64:4096≤d.now.length
     · rw [ah (show ((d.now.length:Int)≥4096) by omega),ae];have e:A.create dir name=(A,66):=by
        unfold AF.FS.create;rw [he];simp only [hD,ho,Option.isSome_none,Bool.false_eq_true,if_false,an h64]
       rw [e];exact ⟨rfl,bu q hq Hd⟩
     · rw [af (show ¬ ((d.now.length:Int)≥4096) by omega),ab];have e:A.create dir name=A.step fun g=>AF.FS.did { g with files:=g.files++[⟨[],0⟩] } i (.create name g.files.length):=by
        unfold AF.FS.create;rw [he];simp only [hD,ho,Option.isSome_none,Bool.false_eq_true,if_false,am h64]
       refine aW H3 fun b2 h4 H4=>aW H4 fun b3 h5 H5=>?_;refine sV (v:=aM b2) H5 fun h6 H6=>?_;obtain ⟨_,hdr,hr,_,_⟩:=AF.db he;have hrn:=hr name (by simp);have hx:(q.xbs++[b2]).getD A.files.length 0=b2:=by
        rw [← hq.2.2,getD_eq_getElem?_getD,List.getElem?_append_right (ax _)];simp
       have H7:=(H6.freeze.mv 6).freeze;have H8:aG (cA b A q.md::bT aS q.md q.m::bY (q.xbs++[b2]) (A.files++[⟨[],0⟩])::cQ (q.xbs++[b2]) q.fbs A.dirs::lF (q.xbs++[b2]) (.create name A.files.length) (.func (.func 102) #[] #[aM b3,aM b0])::F) h6:=by
        have K1:=yW (H7.mv 2);have K2:aG (bY q.xbs A.files::tH ⟨[],0⟩ b2::ro b0 (.cells #[.string name] 9 (0,0))::ro b3 (.cells #[aM b2] 178 (0,0))::cA b A q.md::bT aS q.md q.m::cQ q.xbs q.fbs A.dirs::F) h6:=(((K1.mv 7).drop).mv 5)
        have K3:=tt hq.2.2.symm K2;have K4:aG (bP [lY ((Value.func (.func 102) #[] #[aM b3,aM b0])=.func (.func 102) #[] #[aM b3,aM b0]),ro b3 (.cells #[aM ((q.xbs++[b2]).getD A.files.length 0)] 178 (0,0)),ro b0 (.cells #[.string name] 9 (0,0))]::
         bY (q.xbs++[b2]) (A.files++[⟨[],0⟩])::cA b A q.md::bT aS q.md q.m::cQ q.xbs q.fbs A.dirs::F) h6:=by
         refine aG.shut ?_;refine cE.2 ⟨rfl,?_⟩;rw [hx];exact K3.ordT 6 [2,1,0,3,4,5]
        have K5:aG (lF (q.xbs++[b2]) (.create name A.files.length) (.func (.func 102) #[] #[aM b3,aM b0])::bY (q.xbs++[b2]) (A.files++[⟨[],0⟩])::cA b A q.md::bT aS q.md q.m::cQ q.xbs q.fbs A.dirs::F) h6:=bD.2 ⟨(b3,b0),K4⟩;have es:cQ q.xbs q.fbs A.dirs=cQ (q.xbs++[b2]) q.fbs A.dirs:=q9 (n:=A.files.length) (s:=A.steps) (by rw [← hq.2.2]; exact lB _ _) W.each;rw [es] at K5;exact K5.ordT 5 [2,3,1,4,0]
       have eu:=rJ W ⟨[],0⟩;have eraw:cA b A q.md=cA b { A with files:=A.files++[⟨[],0⟩] } q.md:=by unfold cA; rw [eu]
       rw [eraw] at H8;have W1:AF.FS.WF { A with files:=A.files++[⟨[],0⟩] }:=W.newFile;have hq1:lu { A with files:=A.files++[⟨[],0⟩] } ⟨q.md,q.fbs,q.xbs++[b2],q.m⟩:=⟨hq.1,hq.2.1,by simp [hq.2.2]⟩
       have hfit:AF.Fits (A.files++[(⟨[],0⟩:AF.cV)]).length d.now (.create name A.files.length):=by
        rw [ao];exact AF.nI W hdi hrn (by omega)
       refine (ne (A:={ A with files:=A.files++[⟨[],0⟩] }) (q:=⟨q.md,q.fbs,q.xbs++[b2],q.m⟩) (i:=i) (o:=.create name A.files.length) W1 (AF.rf W hdi hrn (by omega)) hq1 hdi hfi hfit hs H8).mono ?_;rintro v h7 ⟨rfl,H9⟩;rw [aL,e];unfold AF.FS.step at H9 ⊢;by_cases h0:A.fuse=some 0
       · rw [an h0] at H9 ⊢;rw [an h0];refine ⟨rfl,bu (A:={ A with off:=true }) q hq ?_⟩;have es:cQ (q.xbs++[b2]) q.fbs A.dirs=cQ q.xbs q.fbs A.dirs:=(q9 (n:=A.files.length) (s:=A.steps) (by rw [← hq.2.2]; exact lB _ _) W.each).symm;have eraw2:cA b { ({ A with files:=A.files++[⟨[],0⟩] }:AF.FS) with off:=true } q.md=cA b { A with off:=true } q.md:=by
          have:AF.FS.used { ({ A with files:=A.files++[⟨[],0⟩] }:AF.FS) with off:=true }=AF.FS.used { A with off:=true }:=eu;unfold cA;rw [this]
         have K1:aG (bY (q.xbs++[b2]) (A.files++[⟨[],0⟩])::cA b { A with off:=true } q.md::bT aS q.md q.m::cQ q.xbs q.fbs A.dirs::F) h7:=by
          rw [← eraw2,← es];exact H9.ordT 4 [2,0,1,3]
         have K2:aG (bY q.xbs A.files::cA b { A with off:=true } q.md::bT aS q.md q.m::cQ q.xbs q.fbs A.dirs::F) h7:=by
          have K3:=K1.open;rw [zipWith_append hq.2.2.symm,append_assoc] at K3;have K4:=K3.shut;exact (K4.mv 1).drop
         exact K2.ordT 4 [1,2,0,3]
       · rw [am h0] at H9 ⊢;rw [am h0];exact ⟨rfl,bu ⟨q.md,q.fbs,q.xbs++[b2],q.m⟩ (ob hq1 i _) H9⟩
 · refine ⟨none,(e:Int),rfl,?_⟩;have e0:e≠0:=by omega
   rw [aX e0,ae];unfold AF.FS.create;rw [he];exact ⟨rfl,bu q hq Hd⟩
end
end Go.Proofs.YtdpaiiibndnanaaGreatDoor
