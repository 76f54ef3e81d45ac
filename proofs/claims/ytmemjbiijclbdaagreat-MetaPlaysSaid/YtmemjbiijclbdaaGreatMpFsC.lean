/- The file system's own block: steps,fuses,what is told of it. How a file system lies in memory. Names,and the closures that a pending operation is. The closures that a pending operation is. Directories found by their names. Maps as lists,in whatever order; directories and entries found by their names. A file found by its directory and name; steps; pending operations done. What is used,counted. A pending operation: done among the entries,kept for later. Mkdir. Create. -/
import Derived.Test.YtmemjbiijclbdaaGreatMpFsA
import Derived.Test.YtmemjbiijclbdaaGreatMpFsB
import Derived.Test.YtmemjbiijclbdaaGreatMpFwB
import Derived.Test.YtmemjbiijclbdaaGreatMpTa
namespace Go.Proofs.YtmemjbiijclbdaaGreat
open Go.IntKind (wrap)
open Go.Proofs.Tryz (prog)
open List (getD_eq_getElem?_getD length_drop append_assoc take_append_drop map_append getElem?_map pairwise_map filter_cons find?_some mem_of_find?_eq_some map_cons nodup_cons find?_cons flatMap_cons getElem?_of_mem sum_cons map_congr_left zipWith eq_nil_of_length_eq_zero map_map getElem?_zipWith getElem?_set not_mem_nil sum_append map_nil zipWith_append zipWith_cons_cons)
open Go Go.RowKit
set_option linter.unusedVariables false
set_option linter.unusedSimpArgs false
def jI (b:Nat) (room used steps fuse:Int) (off:Bool) (md:Nat):aE:=
 pt b (.cells #[.int .i64 room,.int .i64 used,.int .i64 steps,.int .i64 fuse,.bool off,.map (some md)] 73 (0,0))
theorem AH {b md:Nat} {room used steps fuse:Int} {off:Bool} {F:List aE} {h:Heap} (H:aD (jI b room used steps fuse off md::F) h) (hf : -1≤fuse∧fuse≤9223372036854775807) (hs:0≤steps∧steps<9223372036854775807) :
  aC prog 124 [.pointer (some ⟨b,0,none⟩)] h fun v h'=>
   (fuse=0∧v=.int .i64 60∧aD (jI b room used steps fuse true md::F) h')∨
   (fuse≠0∧v=.int .i64 0∧aD (jI b room used (steps+1) (if fuse<0 then -1 else fuse - 1) off md::F) h'):=by
 apply FQ.ap
 unfold Ln
 simp only [aY,aV]
 refine gA (v:=.int .i64 fuse) H rfl ?_
 rw [aJ]
 by_cases h0:fuse=0
 · subst h0;rw [show ((0:Int)==0)=true from rfl,ab];refine bQ (i:=4) (c':=#[.int .i64 room,.int .i64 used,.int .i64 steps,.int .i64 0,.bool true,.map (some md)]) H (by show 4<6; decide) rfl fun h1 H1=>?_;exact .inl ⟨rfl,by trivial,H1⟩
 · have hb:(fuse==0)=false:=by simpa using h0
   rw [hb,aa];refine gA (v:=.int .i64 fuse) H rfl ?_;rw [aJ];have w:(if (-1:Int)>wrap .i64 (fuse - 1) then (-1) else wrap .i64 (fuse - 1))=(if fuse<0 then -1 else fuse - 1):=by
    rw [IntWalk.i64_in _ (by omega)];split <;> split <;> omega
   rw [w];refine bQ (c':=#[.int .i64 room,.int .i64 used,.int .i64 steps,.int .i64 (if fuse<0 then -1 else fuse - 1),.bool off,.map (some md)]) H (by show 3<6; decide) rfl fun h1 H1=>?_;refine gA (v:=.int .i64 steps) H1 rfl ?_;rw [aJ,IntWalk.i64_in (steps+1) (by omega)];refine bQ (c':=#[.int .i64 room,.int .i64 used,.int .i64 (steps+1),.int .i64 (if fuse<0 then -1 else fuse - 1),.bool off,.map (some md)]) H1 (by show 2<6; decide) rfl fun h2 H2=>?_;exact .inr ⟨h0,by trivial,H2⟩
open Go Go.RowKit Go.MapKept
def wm (x:AF.dy) (xb:Nat):aE:=mu fun q:Option Addr×Nat=>cr [pt xb (.cells #[.slice q.1 x.b.length q.2,.int .i64 (x.safe:Int)] 120 (0,0)),aL 5 1 q.1 x.b.length q.2 (x.b.map nv)]
def cC (xbs:List Nat) (mb:Nat) (l:AF.bG):aE:=mu fun m:List (ByteArray×Value)=>cr [bF aU mb m,iJ (m.Perm (l.map fun p=>(p.1,aI (xbs.getD p.2 0))))]
def nh (xbs:List Nat):AF.Op→Value→aE
 | .create n f,v=>mu fun q:Nat×Nat=>cr [iJ (v=.func (.func 126) #[] #[aI q.1,aI q.2]),ro q.1 (.cells #[aI (xbs.getD f 0)] 114 (0,0)),ro q.2 (.cells #[.string n] 9 (0,0))]
 | .rename a b,v=>mu fun q:Nat×Nat=>cr [iJ (v=.func (.func 128) #[] #[aI q.1,aI q.2]),ro q.1 (.cells #[.string a] 9 (0,0)),ro q.2 (.cells #[.string b] 9 (0,0))]
 | .remove a,v=>mu fun q:Nat=>cr [iJ (v=.func (.func 129) #[] #[aI q]),ro q (.cells #[.string a] 9 (0,0))]
structure Me where
 nb:Nat
 bb:Nat
 a:Option Addr
 c:Nat
def uL (xbs:List Nat) (d:AF.cG) (fb:Nat):aE:=mu fun q:Me=>cr [pt fb (.cells #[.map (some q.nb),.map (some q.bb),.slice q.a d.pend.length q.c] 111 (0,0)),cC xbs q.nb d.now,cC xbs q.bb d.base,kl (nh xbs) 112 q.a d.pend.length q.c d.pend]
def eZ:Option Nat→Int
 | some n=>(n:Int)
 | none => -1
structure tz where
 md:Nat
 fbs:List Nat
 xbs:List Nat
 m:List (ByteArray×Value)
def cj (xbs:List Nat) (fs:List AF.dy):aE:=cr (zipWith wm fs xbs)
def dp (xbs fbs:List Nat) (ds:List AF.cG):aE:=cr (zipWith (uL xbs) ds fbs)
def mT (A:AF.FS) (q:tz):Prop:=q.m.Perm (zipWith (fun (d:AF.cG) fb=>(d.name,aI fb)) A.dirs q.fbs)∧q.fbs.length=A.dirs.length∧q.xbs.length=A.files.length
def cL (b:Nat) (A:AF.FS) (md:Nat):aE:=jI b (A.room:Int) (A.used:Int) (A.steps:Int) (eZ A.fuse) A.off md
def LK (b:Nat) (A:AF.FS) (q:tz):aE:=cr [cL b A q.md,bF aU q.md q.m,cj q.xbs A.files,dp q.xbs q.fbs A.dirs]
def co (b:Nat) (A:AF.FS):aE:=mu fun q:tz=>cr [iJ (mT A q),LK b A q]
section
variable {b:Nat} {A:AF.FS} {F:List aE} {h:Heap}
theorem dl (H:aD (co b A::F) h):∃ q:tz,mT A q∧aD (cL b A q.md::bF aU q.md q.m::cj q.xbs A.files::dp q.xbs q.fbs A.dirs::F) h:=by
 obtain ⟨q,H⟩:=bg.1 H
 obtain ⟨hq,H2⟩:=bh.1 H.open
 exact ⟨q,hq,H2.open⟩
theorem bu (q:tz) (hq:mT A q) (H:aD (cL b A q.md::bF aU q.md q.m::cj q.xbs A.files::dp q.xbs q.fbs A.dirs::F) h):aD (co b A::F) h:=by
 have H2:aD (LK b A q::F) h:=aD.shut (m:=[cL b A q.md,bF aU q.md q.m,cj q.xbs A.files,dp q.xbs q.fbs A.dirs]) (l:=F) H
 have H3:aD (iJ (mT A q)::LK b A q::F) h:=bh.2 ⟨hq,H2⟩
 exact bg.2 ⟨q,aD.shut (m:=[iJ (mT A q),LK b A q]) (l:=F) H3⟩
end
theorem qU {F:List aE} {h:Heap} (H:aD F h):aD (cr []::F) h:=aD.shut (m:=[]) H
theorem yY {room:Nat} {h:Heap} {F:List aE} (H:aD F h) (hr:room≤1073741824) :
  aC prog 9 [.int .i64 (room:Int)] h fun v h'=>∃ b,v=.tuple #[aI b,.int .i64 0]∧aD (co b ⟨room,0,none,false,[],[]⟩::F) h':=by
 apply Km.ap
 unfold F9
 rw [ae (show ¬ ((room:Int)<0) by omega),aa,ae (show ¬ ((room:Int)>1073741824) by omega),aa]
 refine aQ H fun b0 h1 H1=>aQ H1 fun b1 h2 H2=>?_
 refine ⟨b1,rfl,?_⟩
 have H3:=(qO aU (H2.mv 1)).mv 1
 refine bu ⟨b0,[],[],[]⟩ ⟨.refl _,rfl,rfl⟩ ?_
 have H4:aD (cj [] []::cL b1 ⟨room,0,none,false,[],[]⟩ b0::bF aU b0 []::F) h2:=qU H3
 have H5:aD (dp [] [] []::cj [] []::cL b1 ⟨room,0,none,false,[],[]⟩ b0::bF aU b0 []::F) h2:=qU H4
 exact H5.ordT 4 [2,3,1,0]
def mS (n:Nat):Bool:=(decide (97≤n)&&decide (n≤122))||(decide (48≤n)&&decide (n≤57))||decide (n=46)
theorem vB (s:ByteArray):AF.right s=(decide (1≤s.size)&&decide (s.size≤32)&&(sb s).all mS):=by
 unfold AF.right sb nb
 rw [List.all_map]
 rfl
theorem tC {s:ByteArray} {h:Heap} (hs:s.size<4611686018427387904):aC prog 174 [.string s] h fun v h'=>v=.bool (AF.right s)∧h'=h:=by
 apply Fk.ap
 unfold KT
 have hsl:=bd s
 refine ⟨fun st h1=>h1=h∧∃ i:Nat,st=(i:Int)∧i≤s.size∧((sb s).take i).all mS=true,fun st _=>((s.size:Int) - st).toNat,⟨rfl,0,rfl,au _,by simp⟩,?_⟩
 rintro st h1 ⟨rfl,i,rfl,hi,hg⟩
 by_cases hlt:i<s.size
 · rw [af (show ((i:Int)<(s.size:Int)) by omega),ab];refine ⟨by omega,by omega,?_⟩;obtain ⟨x,hx⟩:∃ x,(sb s)[i]? = some x:=⟨_,ah (by omega)⟩
   rw [iG hx];have bad:mS x=false→AF.right s=false:=fun hb=>by
    rw [vB,Bool.and_eq_false_iff];right;rw [List.all_eq_false];exact ⟨x,ai hx,by rw [hb]; simp⟩
   have on:mS x=true→(h1=h1∧∃ j:Nat,wrap .i64 ((i:Int)+1)=(j:Int)∧j≤s.size∧((sb s).take j).all mS=true)∧((s.size:Int) - wrap .i64 ((i:Int)+1)).toNat<((s.size:Int) - (i:Int)).toNat:=fun hb=>by
    rw [aK (by omega)];refine ⟨⟨rfl,i+1,rfl,by omega,?_⟩,by omega⟩;rw [ax,hx,List.all_append,hg];simp [hb]
   by_cases h97:x<97
   · rw [af (show ((x:Int)<97) by omega),ab];by_cases h48:x<48
     · rw [af (show ((x:Int)<48) by omega),ab];by_cases h46:x=46
       · subst h46;exact on rfl
       · rw [show (((x:Int))!=46)=true by rw [bne_iff_ne]; omega,ab,bad (by simp [mS]; omega)];exact ⟨rfl,rfl⟩
     · rw [ae (show ¬ ((x:Int)<48) by omega),aa];by_cases h57:x>57
       · rw [af (show ((x:Int)>57) by omega),ab,show (((x:Int))!=46)=true by rw [bne_iff_ne]; omega,ab,bad (by simp [mS]; omega)];exact ⟨rfl,rfl⟩
       · rw [ae (show ¬ ((x:Int)>57) by omega),aa];exact on (by simp [mS]; omega)
   · rw [ae (show ¬ ((x:Int)<97) by omega),aa];by_cases h122:x>122
     · rw [af (show ((x:Int)>122) by omega),ab,ae (show ¬ ((x:Int)<48) by omega),aa,
        af (show ((x:Int)>57) by omega),ab,show (((x:Int))!=46)=true by rw [bne_iff_ne]; omega,ab,bad (by simp [mS]; omega)]
       exact ⟨rfl,rfl⟩
     · rw [ae (show ¬ ((x:Int)>122) by omega),aa];exact on (by simp [mS]; omega)
 · have e:i=s.size:=by omega
   subst e;rw [ae (by omega),aa];rw [ar (by omega)] at hg;rw [vB,hg,Bool.and_true,fZ,BB];by_cases h0:s.size=0
   · have:sb s=[]:=eq_nil_of_length_eq_zero (by omega);rw [af this,h0];exact ⟨rfl,rfl⟩
   · have:¬ sb s=[]:=fun e=>h0 (by rw [← hsl,e]; rfl);rw [ae this,aA,ab,af (show 1≤s.size by omega),Bool.true_and];refine ⟨congrArg Value.bool ?_,rfl⟩;by_cases h32:s.size≤32
     · rw [af h32,af (show ((s.size:Int)≤32) by omega)]
     · rw [ae h32,ae (show ¬ ((s.size:Int)≤32) by omega)]
theorem Jk:prog.underlying 109=some (.map 9 114):=by kernel_rfl
theorem u9:prog.underlying 9=some aU.desc:=by kernel_rfl
theorem AG {mb bx bn xb:Nat} {m:List (ByteArray×Value)} {n:ByteArray} {ex en:TypeId} {h:Heap} {F:List aE} (H:aD (bF aU mb m::F) h) (hx:h[bx]? = some (.cells #[aI xb] ex (0,0))) (hn:h[bn]? = some (.cells #[.string n] en (0,0))) :
  aC prog 126 [.map (some mb),aI bx,aI bn] h fun v h'=>v=.tuple #[]∧aD (bF aU mb (gt m n (aI xb))::F) h':=by
 apply FO (n0:=some mb) (c0:=⟨bx,0,none⟩) (c1:=⟨bn,0,none⟩)
 unfold Jb
 refine pU hn ?_
 rw [aW]
 refine pU hx ?_
 show DP (.pointer (some ⟨xb,0,none⟩)) _
 rw [bD]
 exact fP (E:=aU) (k:=n) Jk u9 H fun h' H'=>⟨rfl,H'⟩
theorem AD {mb bn:Nat} {m:List (ByteArray×Value)} {n:ByteArray} {en:TypeId} {h:Heap} {F:List aE} (H:aD (bF aU mb m::F) h) (hn:h[bn]? = some (.cells #[.string n] en (0,0))) :
  aC prog 129 [.map (some mb),aI bn] h fun v h'=>v=.tuple #[]∧aD (bF aU mb (iX m n)::F) h':=by
 apply FL (n0:=some mb) (c0:=⟨bn,0,none⟩)
 unfold I9
 refine pU hn ?_
 rw [aW]
 exact nw (E:=aU) (k:=n) Jk u9 H fun h' H'=>⟨rfl,H'⟩
theorem AE {mb ba bb:Nat} {m:List (ByteArray×Value)} {a b:ByteArray} {ea eb:TypeId} {p:Option Addr} {h:Heap} {F:List aE} (H:aD (bF aU mb m::F) h) (ha:h[ba]? = some (.cells #[.string a] ea (0,0)))
  (hb:∀ h',aD (bF aU mb (iX m a)::F) h'→h'[bb]? = some (.cells #[.string b] eb (0,0))) (hp:(kp m a).getD (.pointer none)=.pointer p) :
  aC prog 128 [.map (some mb),aI ba,aI bb] h fun v h'=>v=.tuple #[]∧aD (bF aU mb (gt (iX m a) b (.pointer p))::F) h':=by
 apply FM (n0:=some mb) (c0:=⟨ba,0,none⟩) (c1:=⟨bb,0,none⟩)
 unfold Ja
 refine pU ha ?_
 rw [aW]
 obtain ⟨es,clock,hm,hes⟩:=fD H
 obtain ⟨f,hf,hl,_⟩:=hm.find a
 refine ⟨es,hes,f,hf,?_⟩
 rw [hl,hp,bD]
 refine pU ha ?_
 rw [aW]
 refine nw (E:=aU) (k:=a) Jk u9 H fun h1 H1=>?_
 refine pU (hb h1 H1) ?_
 rw [aW]
 exact fP (E:=aU) (k:=b) Jk u9 H1 fun h' H'=>⟨rfl,H'⟩
def jq (m:List (ByteArray×Value)) (dir:ByteArray) (ss:List ByteArray):Value:=
 if AF.right dir&&ss.all AF.right then match kp m dir with
  | some v=>.tuple #[v,.int .i64 0]
  | none=>.tuple #[.pointer none,.int .i64 61]
 else .tuple #[.pointer none,.int .i64 65]
theorem pu {b md:Nat} {room used steps fuse:Int} {off:Bool} {m:List (ByteArray×Value)} {dir:ByteArray} {a:Option Addr} {l c:Nat} {ss:List ByteArray} {h:Heap} {F:List aE}
  (H:aD (jI b room used steps fuse off md::bF aU md m::F) h) (hp:∀ k v,kp m k=some v→∃ fb,v=aI fb) (hr:dF h a (ss.map Value.string)) (hl:ss.length=l) (hlb:l<1000)
  (hd:dir.size<4611686018427387904) (hss:∀ s∈ss,s.size<4611686018427387904) :
  aC prog 130 [.pointer (some ⟨b,0,none⟩),.string dir,.slice a l c] h fun v h'=>v=jq m dir ss∧h'=h:=by
 apply FK.ap
 unfold Lk
 refine (tC hd).mono ?_
 rintro v h1 ⟨rfl,rfl⟩
 rw [cd]
 cases hrd:AF.right dir with
 | false=>exact ⟨by unfold jq; rw [hrd]; rfl,rfl⟩
 | true=>
   rw [az,aa];refine ⟨fun st h2=>h2=h1∧∃ i:Nat,st=(i:Int)∧i≤l∧(ss.take i).all AF.right=true,fun st _=>((l:Int) - st).toNat,⟨rfl,0,rfl,au _,by simp⟩,?_⟩;rintro st h2 ⟨rfl,i,rfl,hi,hg⟩;by_cases hlt:i<l
   · rw [af (show ((i:Int)<(l:Int)) by omega),ab];obtain ⟨s,hs⟩:∃ s,ss[i]? = some s:=⟨_,ah (by omega)⟩
     refine cf (v:=.string s) hr (by rw [an]; exact hl) (by rw [getElem?_map,hs]; rfl) fun b hb hc=>⟨_,hc,?_⟩
     show DS (.string s) _;rw [aW];refine (tC (hss s (ai hs))).mono ?_;rintro v h3 ⟨rfl,rfl⟩;rw [cd]
     cases hrs:AF.right s with
     | false=>
       refine ⟨?_,rfl⟩;have:ss.all AF.right=false:=by
        rw [List.all_eq_false];exact ⟨s,ai hs,by rw [hrs]; simp⟩
       unfold jq;rw [hrd,this]
       rfl
     | true=>
       rw [az,aa,aK (by omega)];refine ⟨⟨rfl,i+1,rfl,by omega,?_⟩,by show ((l:Int) - ((i+1:Nat):Int)).toNat<((l:Int) - (i:Int)).toNat; omega⟩;rw [ax,hs,List.all_append,hg];simp [hrs]
   · have e:i=l:=by omega
     subst e;rw [ae (by omega),aa];rw [ar (by omega)] at hg;simp only [aY];refine gA (v:=.map (some md)) H rfl ?_;rw [bY];obtain ⟨es,clock,hm,hes⟩:=fD (H.mv 1);obtain ⟨f,hf,hlk,_⟩:=hm.find dir;refine ⟨es,hes,f,hf,?_⟩;rw [hlk]
     cases hk:kp m dir with
     | none=>
       show DP (.pointer none) _;rw [bD];exact ⟨by unfold jq; rw [hrd,hg,hk]; rfl,by trivial⟩
     | some v=>
       obtain ⟨fb,rfl⟩:=hp dir v hk;show DP (.pointer (some ⟨fb,0,none⟩)) _;rw [bD];exact ⟨by unfold jq; rw [hrd,hg,hk]; rfl,by trivial⟩
def BE (off:Bool) (m:List (ByteArray×Value)) (dir:ByteArray) (ss:List ByteArray):Value:=if off then .tuple #[.pointer none,.int .i64 60] else jq m dir ss
theorem wb {m:List (ByteArray×Value)} (hp:∀ k v,kp m k=some v→∃ fb,v=aI fb) (dir:ByteArray) (ss:List ByteArray):∃ (p:Option Addr) (e:Int),jq m dir ss=.tuple #[.pointer p,.int .i64 e]:=by
 unfold jq
 split
 · cases hk:kp m dir with
   | none=>exact ⟨none,61,rfl⟩
   | some v=>
     obtain ⟨fb,rfl⟩:=hp dir v hk;exact ⟨some ⟨fb,0,none⟩,0,rfl⟩
 · exact ⟨none,65,rfl⟩
theorem AI {b md:Nat} {room used steps fuse:Int} {off:Bool} {m:List (ByteArray×Value)} {dir:ByteArray} {a:Option Addr} {l c:Nat} {ss:List ByteArray} {h:Heap} {F:List aE}
  (H:aD (jI b room used steps fuse off md::bF aU md m::F) h) (hp:∀ k v,kp m k=some v→∃ fb,v=aI fb) (hr:dF h a (ss.map Value.string)) (hl:ss.length=l) (hlb:l<1000)
  (hd:dir.size<4611686018427387904) (hss:∀ s∈ss,s.size<4611686018427387904) :
  aC prog 123 [.pointer (some ⟨b,0,none⟩),.string dir,.slice a l c] h fun v h'=>v=BE off m dir ss∧h'=h:=by
 apply FR.ap
 unfold Lo
 simp only [Option.isNone_some,aa,aY]
 refine gA (v:=.bool off) H rfl ?_
 rw [cd]
 cases off with
 | true=>exact ⟨rfl,by trivial⟩
 | false=>
   rw [aa];refine (pu H hp hr hl hlb hd hss).mono ?_;rintro v h1 ⟨rfl,rfl⟩;obtain ⟨p,e,hf⟩:=wb hp dir ss;exact ⟨p,e,hf,by rw [← hf]; rfl,by trivial⟩
section
variable {κ:Type} [DecidableEq κ] {m n:List (κ×Value)}
theorem Ek {k:κ} {v:Value} (h:kp m k=some v):(k,v)∈m:=by
 unfold kp at h
 cases hf:m.find? (fun p=>decide (p.1=k)) with
 | none=>rw [hf] at h; cases h
 | some p=>
   rw [hf] at h;simp only [Option.map_some,Option.some.injEq] at h;have h1:=find?_some hf;simp only [decide_eq_true_eq] at h1;have h2:=mem_of_find?_eq_some hf;rw [← h,← h1];exact h2
theorem uw (hu:(m.map (·.1)).Nodup) {k:κ} {v:Value} (h:(k,v)∈m):kp m k=some v:=by
 induction m with
 | nil=>cases h
 | cons q m ih=>
   simp only [map_cons,nodup_cons] at hu;unfold kp;rw [find?_cons]
   rcases ay.1 h with rfl | h
   · simp
   · have hne:q.1≠k:=fun e=>hu.1 (by rw [e]; exact List.mem_map.2 ⟨(k,v),h,rfl⟩);simp only [hne,decide_false];exact ih hu.2 h
theorem vV {k:κ} (h:∀ p∈m,p.1≠k):kp m k=none:=by
 unfold kp
 rw [List.find?_eq_none.2 fun p hp=>by simpa using h p hp]
 rfl
theorem ph {k:κ} (h:∀ p∈m,p.1≠k):iX m k=m:=List.filter_eq_self.2 fun p hp=>by simpa using h p hp
theorem sg {k:κ} {v:Value} (hu:(m.map (·.1)).Nodup):(gt m k v).Perm ((k,v)::iX m k):=by
 unfold gt
 split
 · rename_i ha
   induction m with
   | nil=>simp at ha
   | cons q m ih=>
     simp only [map_cons,nodup_cons] at hu;by_cases hq:q.1=k
     · have hno:∀ p∈m,p.1≠k:=fun p hp e=>hu.1 (by rw [hq,← e]; exact List.mem_map.2 ⟨p,hp,rfl⟩);have h1:m.map (fun p=>if p.1=k then (k,v) else p)=m:=by
        conv=>rhs; rw [← List.map_id m]
        exact map_congr_left fun p hp=>by simp [hno p hp]
       have h2:iX (q::m) k=m:=by
        unfold iX;rw [filter_cons,ak (by simp [hq])];exact ph hno
       rw [map_cons,al hq,h1,h2]
     · have h2:iX (q::m) k=q::iX m k:=by
        unfold iX;rw [filter_cons,al (by simp [hq])]
       have ha2:m.any (fun p=>decide (p.1=k))=true:=by simpa [hq] using ha
       rw [map_cons,ak hq,h2];exact ((ih hu.2 ha2).cons q).trans (.swap _ _ _)
 · rename_i ha;rw [ph fun p hp e=>ha (List.any_eq_true.2 ⟨p,hp,by simpa using e⟩)];exact List.perm_append_comm
theorem z6 (h:m.Perm n) (k:κ):(iX m k).Perm (iX n k):=h.filter _
end
def kz (xbs:List Nat) (p:ByteArray×Nat):ByteArray×Value:=(p.1,aI (xbs.getD p.2 0))
section
variable {xbs:List Nat} {m:List (ByteArray×Value)} {l:AF.bG}
theorem rm:(l.map (kz xbs)).map (·.1)=l.map (·.1):=by rw [map_map]; rfl
theorem tj (hp:m.Perm (l.map (kz xbs))) (hu:AF.Up l):(m.map (·.1)).Nodup:=by
 rw [(hp.map (·.1)).nodup_iff,rm]
 exact hu.nodup
theorem xP (hp:m.Perm (l.map (kz xbs))) (hu:AF.Up l) (n:ByteArray):kp m n=(AF.of l n).map fun x=>aI (xbs.getD x 0):=by
 cases ho:AF.of l n with
 | none=>
   refine vV fun p hm=>?_;obtain ⟨p',hp',rfl⟩:=List.mem_map.1 (hp.mem_iff.1 hm);exact AF.Eg ho p' hp'
 | some x=>exact uw (tj hp hu) (hp.mem_iff.2 (List.mem_map.2 ⟨(n,x),AF.jW ho,rfl⟩))
theorem uJ (hp:m.Perm (l.map (kz xbs))) (n:ByteArray):(iX m n).Perm ((AF.drop l n).map (kz xbs)):=by
 have h:=z6 hp n
 have e:iX (l.map (kz xbs)) n=(AF.drop l n).map (kz xbs):=by
  unfold iX AF.drop;rw [List.filter_map]
  rfl
 rwa [e] at h
theorem uH (hp:m.Perm (l.map (kz xbs))) (hu:AF.Up l) (n:ByteArray) (x:Nat):(gt m n (aI (xbs.getD x 0))).Perm ((AF.ins n x l).map (kz xbs)):=by
 refine (sg (tj hp hu)).trans ?_
 refine ((uJ hp n).cons _).trans ?_
 exact ((AF.jo (f:=x) hu).map (kz xbs)).symm
end
section
variable {A:AF.FS} {q:tz}
theorem kA (hq:mT A q) {k:ByteArray} {v:Value}:(k,v)∈q.m↔∃ (i:Nat) (d:AF.cG) (fb:Nat),A.dirs[i]? = some d∧q.fbs[i]? = some fb∧k=d.name∧v=aI fb:=by
 rw [hq.1.mem_iff]
 constructor
 · intro h;obtain ⟨i,hi⟩:=getElem?_of_mem h;rw [getElem?_zipWith] at hi
   cases h1:A.dirs[i]? with
   | none=>rw [h1] at hi; simp at hi
   | some d=>
     cases h2:q.fbs[i]? with
     | none=>rw [h1,h2] at hi; simp at hi
     | some fb=>
       rw [h1,h2] at hi;simp only [Option.some.injEq,Prod.mk.injEq] at hi;exact ⟨i,d,fb,h1,h2,hi.1.symm,hi.2.symm⟩
 · rintro ⟨i,d,fb,h1,h2,rfl,rfl⟩;refine ai (i:=i) ?_;rw [getElem?_zipWith,h1,h2]
theorem kB (hq:mT A q):(q.m.map (·.1)).Perm (A.dirs.map (·.name)):=by
 refine (hq.1.map _).trans (.of_eq ?_)
 apply List.ext_getElem?
 intro i
 rw [getElem?_map,getElem?_map,getElem?_zipWith]
 cases h1:A.dirs[i]? with
 | none=>simp
 | some d=>
   have:i<q.fbs.length:=by rw [hq.2.1]; exact (aj.1 h1).1
   rw [ah this]
   rfl
theorem pG (W:A.WF):(A.dirs.map (·.name)).Nodup:=by
 rw [List.Nodup,pairwise_map]
 refine List.Pairwise.imp ?_ W.up
 intro a b h e
 rw [← e] at h
 exact AF.cX a.name h
theorem nq (W:A.WF) (hq:mT A q):(q.m.map (·.1)).Nodup:=(kB hq).nodup_iff.2 (pG W)
theorem Cc (hq:mT A q) {i:Nat} {d:AF.cG} (hd:A.dirs[i]? = some d):∃ fb,q.fbs[i]? = some fb:=
 ⟨_,ah (by rw [hq.2.1]; exact (aj.1 hd).1)⟩
theorem yr (hq:mT A q) {x:Nat} (hx:x<A.files.length):∃ y xb,A.files[x]? = some y∧q.xbs[x]? = some xb∧q.xbs.getD x 0=xb:=
 ⟨_,_,ah hx,ah (by rw [hq.2.2]; exact hx),by rw [getD_eq_getElem?_getD,ah (by rw [hq.2.2]; exact hx)]; rfl⟩
theorem rq (hq:mT A q) (k:ByteArray) (v:Value) (hk:kp q.m k=some v):∃ fb,v=aI fb:=by
 obtain ⟨i,d,fb,_,_,_,h⟩:=(kA hq).1 (Ek hk)
 exact ⟨fb,h⟩
theorem EE (W:A.WF) (hq:mT A q) (dir:ByteArray):(A.at dir=none∧kp q.m dir=none)∨∃ (i:Nat) (d:AF.cG) (fb:Nat),A.at dir=some i∧A.dirs[i]? = some d∧d.name=dir∧q.fbs[i]? = some fb∧kp q.m dir=some (aI fb):=by
 cases ha:A.at dir with
 | none=>
   refine .inl ⟨rfl,vV fun p hp e=>?_⟩;obtain ⟨i,d,fb,h1,_,h2,_⟩:=(kA hq (k:=p.1) (v:=p.2)).1 hp;exact AF.qg ha d (ai h1) (by rw [← h2,e])
 | some i=>
   obtain ⟨d,hd,hn⟩:=AF.qf ha;obtain ⟨fb,hf⟩:=Cc hq hd;exact .inr ⟨i,d,fb,rfl,hd,hn,hf,uw (nq W hq) ((kA hq).2 ⟨i,d,fb,hd,hf,hn.symm,rfl⟩)⟩
theorem rc (W:A.WF) (hq:mT A q) (dir:ByteArray) (ss:List ByteArray):(∃ (i:Nat) (d:AF.cG) (fb:Nat),A.named dir ss=.ok i∧A.dirs[i]? = some d∧q.fbs[i]? = some fb∧jq q.m dir ss=.tuple #[aI fb,.int .i64 0])∨
  ∃ e:Nat,A.named dir ss=.error e∧(e=61∨e=65)∧jq q.m dir ss=.tuple #[.pointer none,.int .i64 (e:Int)]:=by
 unfold jq AF.FS.named
 split
 · rcases EE W hq dir with ⟨h1,h2⟩ | ⟨i,d,fb,h1,h2,h3,h4,h5⟩
   · rw [h1,h2]; exact .inr ⟨61,rfl,.inl rfl,rfl⟩
   · rw [h1,h5]; exact .inl ⟨i,d,fb,rfl,h2,h4,rfl⟩
 · exact .inr ⟨65,rfl,.inr rfl,rfl⟩
end
abbrev zR (b:Nat) (A:AF.FS) (q:tz) (F:List aE):List aE:=cL b A q.md::bF aU q.md q.m::cj q.xbs A.files::dp q.xbs q.fbs A.dirs::F
section
variable {b:Nat} {A:AF.FS} {q:tz} {F:List aE} {h:Heap}
theorem hY {dir:ByteArray} {a:Option Addr} {l c:Nat} {ss:List ByteArray} (W:A.WF) (hq:mT A q) (H:aD (cL b A q.md::bF aU q.md q.m::F) h) (hr:dF h a (ss.map Value.string)) (hl:ss.length=l) (hlb:l<1000)
  (hd:dir.size<4611686018427387904) (hss:∀ s∈ss,s.size<4611686018427387904) :
  aC prog 123 [aI b,.string dir,.slice a l c] h fun v h'=>h'=h∧((∃ (i:Nat) (d:AF.cG) (fb:Nat),A.ready dir ss=.ok i∧A.dirs[i]? = some d∧q.fbs[i]? = some fb∧v=.tuple #[aI fb,.int .i64 0])∨
   ∃ e:Nat,A.ready dir ss=.error e∧(e=60∨e=61∨e=65)∧v=.tuple #[.pointer none,.int .i64 (e:Int)]):=by
 refine (AI H (rq hq) hr hl hlb hd hss).mono ?_
 rintro v h1 ⟨rfl,rfl⟩
 refine ⟨rfl,?_⟩
 unfold BE AF.FS.ready
 cases A.off with
 | true=>exact .inr ⟨60,rfl,.inl rfl,rfl⟩
 | false=>
   rcases rc W hq dir ss with ⟨i,d,fb,h1,h2,h3,h4⟩ | ⟨e,h1,h2,h3⟩
   · exact .inl ⟨i,d,fb,h1,h2,h3,h4⟩
   · exact .inr ⟨e,h1,.inr h2,h3⟩
def nu (xbs fbs:List Nat) (ds:List AF.cG) (i:Nat):aE:=rZ (uL xbs) ds fbs i
def mJ (nb bb:Nat) (a:Option Addr) (l c:Nat):Obj:=.cells #[.map (some nb),.map (some bb),.slice a l c] 111 (0,0)
theorem jN {xbs fbs:List Nat} {ds:List AF.cG} {i:Nat} {d:AF.cG} {fb:Nat} (H:aD (dp xbs fbs ds::F) h) (hd:ds[i]? = some d) (hf:fbs[i]? = some fb) :
  ∃ (nb bb:Nat) (a:Option Addr) (c:Nat),aD (pt fb (mJ nb bb a d.pend.length c)::cC xbs nb d.now::cC xbs bb d.base::kl (nh xbs) 112 a d.pend.length c d.pend::nu xbs fbs ds i::F) h:=by
 obtain ⟨r,H2⟩:=bg.1 (iB H hd hf)
 exact ⟨r.nb,r.bb,r.a,r.c,H2.open⟩
theorem nt {xbs fbs:List Nat} {ds:List AF.cG} {i:Nat} {d d':AF.cG} {fb nb bb:Nat} {a:Option Addr} {c:Nat} (hd:ds[i]? = some d') (hf:fbs[i]? = some fb)
  (H:aD (pt fb (mJ nb bb a d.pend.length c)::cC xbs nb d.now::cC xbs bb d.base::kl (nh xbs) 112 a d.pend.length c d.pend::nu xbs fbs ds i::F) h):aD (dp xbs fbs (ds.set i d)::F) h:=by
 refine uy hf (aj.1 hd).1 (bg.2 ⟨⟨nb,bb,a,c⟩,?_⟩)
 exact aD.shut (m:=[pt fb (mJ nb bb a d.pend.length c),cC xbs nb d.now,cC xbs bb d.base,kl (nh xbs) 112 a d.pend.length c d.pend]) H
theorem dw {α:Type} {l:List α} {i:Nat} {x:α} (g:α→α) (hx:l[i]? = some x):l.modify i g=l.set i (g x):=by
 apply List.ext_getElem?
 intro j
 rw [ii,getElem?_set]
 have hl:=(aj.1 hx).1
 by_cases h:i=j
 · subst h;rw [hx,al rfl,al hl];simp
 · simp [h]
theorem fC {xbs:List Nat} {mb:Nat} {l:AF.bG} (H:aD (cC xbs mb l::F) h):∃ m:List (ByteArray×Value),m.Perm (l.map (kz xbs))∧aD (bF aU mb m::F) h:=by
 obtain ⟨m,H2⟩:=bg.1 H
 have H3:=H2.open
 obtain ⟨hp,H4⟩:=bh.1 (H3.mv 1)
 exact ⟨m,hp,H4⟩
theorem dv {xbs:List Nat} {mb:Nat} {l:AF.bG} {m:List (ByteArray×Value)} (hp:m.Perm (l.map (kz xbs))) (H:aD (bF aU mb m::F) h):aD (cC xbs mb l::F) h:=by
 refine bg.2 ⟨m,aD.shut (m:=[bF aU mb m,iJ (m.Perm (l.map (kz xbs)))]) ?_⟩
 have H2:aD (iJ (m.Perm (l.map (kz xbs)))::bF aU mb m::F) h:=bh.2 ⟨hp,H⟩
 exact H2.mv 1
theorem lT {xbs fbs:List Nat} {ds:List AF.cG} {i:Nat} {d:AF.cG} {fb:Nat} (H:aD (dp xbs fbs ds::F) h) (hd:ds[i]? = some d) (hf:fbs[i]? = some fb) (hu:AF.Up d.now) :
  ∃ (nb bb:Nat) (a:Option Addr) (c:Nat) (es:Array MapEntry),h[fb]? = some (mJ nb bb a d.pend.length c)∧dJ h (some nb) es∧es.size=d.now.length∧
    ∀ n:ByteArray,∃ f,Instr.findNow .string (.string n) es.toList 0=some f∧f.map (·.2)=(AF.of d.now n).map fun x=>aI (xbs.getD x 0):=by
 obtain ⟨nb,bb,a,c,H2⟩:=jN H hd hf
 obtain ⟨m,hp,H3⟩:=fC (H2.mv 1)
 obtain ⟨es,clock,hm,hes⟩:=fD H3
 refine ⟨nb,bb,a,c,es,H2.get,hes,?_,fun n=>?_⟩
 · rw [hm.size,hp.length_eq,an]
 · obtain ⟨f,hf,hl,_⟩:=hm.find n;exact ⟨f,hf,by rw [hl,xP hp hu]⟩
end
section
variable {b:Nat} {A:AF.FS} {q:tz} {F:List aE} {h:Heap}
theorem lg {xs:List Nat} {o:Option Nat} {f:Option (Nat×Value)} {K:Option Addr→Prop} (hl:f.map (·.2)=o.map fun x=>aI (xs.getD x 0)) (hK:K (o.map fun x=>⟨xs.getD x 0,0,none⟩)) :
  DP ((Option.map (fun x=>x.2) f).getD (.pointer none)) K:=by
 rw [hl]
 cases o with
 | none=>exact ⟨none,rfl,hK⟩
 | some x=>exact ⟨_,rfl,hK⟩
theorem mD {dir name:ByteArray} (W:A.WF) (hq:mT A q) (H:aD (zR b A q F) h) (hd:dir.size<4611686018427387904) (hn:name.size<4611686018427387904) :
  aC prog 127 [aI b,.string dir,.string name] h fun v h'=>aD (zR b A q F) h'∧
   ((∃ (i x:Nat) (d:AF.cG) (y:AF.dy) (fb xb:Nat),A.entry dir name=.ok (i,x)∧A.dirs[i]? = some d∧q.fbs[i]? = some fb∧A.files[x]? = some y∧q.xbs[x]? = some xb∧v=.tuple #[aI fb,aI xb,.int .i64 0])∨
    ∃ e:Nat,A.entry dir name=.error e∧e≠0∧v=.tuple #[.pointer none,.pointer none,.int .i64 (e:Int)]):=by
 apply FN.ap
 unfold Ll
 refine aQ H fun b0 h1 H1=>?_
 have hr:dF h1 (some ⟨b0,0,none⟩) ([name].map Value.string):=by
  intro j v hv;rw [dU H1.get]
  cases j with
  | zero=>exact hv
  | succ j=>simp at hv
 refine (hY (ss:=[name]) W hq (H1.drop) hr rfl (show 1<1000 by omega) hd (fun s hs=>by simp at hs; rw [hs]; exact hn)).mono ?_
 rintro v h2 ⟨rfl,hcase⟩
 have H2:=H1.drop
 rcases hcase with ⟨i,d,fb,he,hdi,hfi,rfl⟩ | ⟨e,he,hne,rfl⟩
 · have w:=W.each d (ai hdi);obtain ⟨nb,bb,a,c,es,hfb,hes,hsz,hlk⟩:=lT (H2.mv 3) hdi hfi w.ok.up;obtain ⟨f,hf,hl⟩:=hlk name;refine ⟨some ⟨fb,0,none⟩,0,rfl,?_⟩;rw [show ((0:Int)==0)=true from rfl,ab];simp only [aY,aV];have rd:∀ K:Value→Prop,K (.map (some nb))→Ld h2 ⟨fb,0,none⟩ K:=fun K hK=>⟨_,by rw [bj hfb]; rfl,hK⟩
   refine rd _ ?_;rw [bY];refine ⟨es,hes,f,hf,lg hl ?_⟩
   cases ho:AF.of d.now name with
   | none=>
     refine ⟨H2,.inr ⟨62,?_,by omega,rfl⟩⟩;unfold AF.FS.entry;rw [he];simp only [AF.jz hdi,ho]
   | some x=>
     show bif (false:Bool) then _ else _
     rw [aa,show ((0:Int)!=0)=false from rfl,aa];refine rd _ ?_;rw [bY];refine ⟨es,hes,f,hf,lg hl ?_⟩;rw [ho];have hx:=(w.ok.each _ (AF.jW ho)).1;obtain ⟨y,xb,h1,h3,h4⟩:=yr hq hx;refine ⟨H2,.inl ⟨i,x,d,y,fb,xb,?_,hdi,hfi,h1,h3,?_⟩⟩
     · unfold AF.FS.entry;rw [he];simp only [AF.jz hdi,ho]
     · show Value.tuple #[aI fb,aI (q.xbs.getD x 0),.int .i64 0]=_;rw [h4]
 · refine ⟨none,(e:Int),rfl,?_⟩;have e0:((e:Int)==0)=false:=by
    rw [beq_eq_false_iff_ne]
    rcases hne with rfl | rfl | rfl <;> decide
   have e1:((e:Int)!=0)=true:=by rw [bne,e0]; rfl
   rw [e0,aa,e1,ab];refine ⟨H2,.inr ⟨e,?_,by omega,rfl⟩⟩;unfold AF.FS.entry;rw [he]
theorem xH (W:A.WF) : -1≤eZ A.fuse∧eZ A.fuse≤9223372036854775807:=by
 unfold eZ
 cases hf:A.fuse with
 | none=>exact ⟨by decide,by decide⟩
 | some n=>
   have:=W.fuse n hf;simp only;omega
theorem j9 {md:Nat} (W:A.WF) (hs:A.steps<1099511627776) (H:aD (cL b A md::F) h):aC prog 124 [aI b] h fun v h'=>
  (A.fuse=some 0∧v=.int .i64 60∧aD (cL b { A with off:=true } md::F) h')∨(A.fuse≠some 0∧v=.int .i64 0∧aD (cL b A.stepOn md::F) h'):=by
 refine (AH H (xH W) ⟨by omega,by omega⟩).mono ?_
 rintro v h1 (⟨h0,rfl,H1⟩ | ⟨h0,rfl,H1⟩)
 · refine .inl ⟨?_,rfl,?_⟩
   · unfold eZ at h0
     cases hf:A.fuse with
     | none=>rw [hf] at h0; cases h0
     | some n=>rw [hf] at h0; simp only at h0; congr; omega
   · exact H1
 · refine .inr ⟨?_,rfl,?_⟩
   · intro hf;rw [hf] at h0;exact h0 rfl
   · have e1:(if eZ A.fuse<0 then -1 else eZ A.fuse - 1)=eZ (A.fuse.map (· - 1)):=by
      cases hf:A.fuse with
      | none=>rfl
      | some n=>
        rw [hf] at h0;have h2:(n:Int)≠0:=h0;rw [ak (show ¬ eZ (some n)<0 from by show ¬ ((n:Int)<0); omega)];show (n:Int) - 1=((n - 1:Nat):Int)
        omega
     rw [e1] at H1;exact H1
end
theorem BN (xbs:List Nat) (o:AF.Op) (v:Value):jx (nh xbs o v):=by
 cases o with
 | create n f=>
   refine jx.mu fun q=>jx.many fun A hA=>?_;simp only [ay,not_mem_nil,or_false] at hA
   rcases hA with rfl | rfl | rfl
   · exact jx.iJ _
   · exact nM _ _
   · exact nM _ _
 | rename a b=>
   refine jx.mu fun q=>jx.many fun A hA=>?_;simp only [ay,not_mem_nil,or_false] at hA
   rcases hA with rfl | rfl | rfl
   · exact jx.iJ _
   · exact nM _ _
   · exact nM _ _
 | remove a=>
   refine jx.mu fun q=>jx.many fun A hA=>?_;simp only [ay,not_mem_nil,or_false] at hA
   rcases hA with rfl | rfl
   · exact jx.iJ _
   · exact nM _ _
theorem yE {xbs:List Nat} {mb n:Nat} {l:AF.bG} {o:AF.Op} {v:Value} {F:List aE} {h:Heap} (H:aD (cC xbs mb l::nh xbs o v::F) h) (hk:AF.Ok n l) (hf:AF.mM n l o) :
  cB prog v [.map (some mb)] h fun r h'=>r=.tuple #[]∧aD (cC xbs mb (AF.does l o)::nh xbs o v::F) h':=by
 have Hd:=((H.mv 1).dup (BN xbs o v)).mv 2
 obtain ⟨m,hp,H1⟩:=fC Hd
 cases o with
 | create k x=>
   obtain ⟨⟨b1,b2⟩,H2⟩:=bg.1 (H1.mv 1);obtain ⟨hv,H3⟩:=bh.1 H2.open;subst hv;have H4:aD (bF aU mb m::ro b1 (.cells #[aI (xbs.getD x 0)] 114 (0,0))::ro b2 (.cells #[.string k] 9 (0,0))::_) h:=H3.mv 2;refine fO ?_;refine aC.mono (AG (bx:=b1) (bn:=b2) H4 (H4.mv 1).getRo (H4.mv 2).getRo) ?_;rintro r h' ⟨rfl,H5⟩;exact ⟨rfl,dv (uH hp hk.up k x) ((H5.mv 1).drop.mv 1).drop⟩
 | remove k=>
   obtain ⟨b2,H2⟩:=bg.1 (H1.mv 1);obtain ⟨hv,H3⟩:=bh.1 H2.open;subst hv;have H4:aD (bF aU mb m::ro b2 (.cells #[.string k] 9 (0,0))::_) h:=H3.mv 1;refine fO ?_;refine aC.mono (AD (bn:=b2) H4 (H4.mv 1).getRo) ?_;rintro r h' ⟨rfl,H5⟩;exact ⟨rfl,dv (uJ hp k) (H5.mv 1).drop⟩
 | rename k k2=>
   obtain ⟨⟨b1,b2⟩,H2⟩:=bg.1 (H1.mv 1);obtain ⟨hv,H3⟩:=bh.1 H2.open;subst hv;have H4:aD (bF aU mb m::ro b1 (.cells #[.string k] 9 (0,0))::ro b2 (.cells #[.string k2] 9 (0,0))::_) h:=H3.mv 2;obtain ⟨x,hx⟩:=Option.isSome_iff_exists.1 hf.2.2;refine fO ?_;refine aC.mono (AE (ba:=b1) (bb:=b2) (a:=k) (b:=k2) (p:=some ⟨xbs.getD x 0,0,none⟩) H4 (H4.mv 1).getRo (fun h' H'=>(H'.mv 2).getRo) (by rw [xP hp hk.up,hx]; rfl)) ?_;rintro r h' ⟨rfl,H5⟩;have hp2:=uH (uJ hp k) (hk.up.drop k) k2 x;refine ⟨rfl,?_⟩;have e:AF.does l (.rename k k2)=AF.ins k2 x (AF.drop l k):=by
    simp only [AF.does,hx]
   rw [e];exact dv hp2 ((H5.mv 1).drop.mv 1).drop
theorem dG.pairs {es:Array MapEntry} {clock:Nat} {m:List (ByteArray×Value)} (hm:dG aU es clock m):es.toList.map (fun e:MapEntry=>(kS e.key,e.val))=m:=by
 have:=congrArg (List.map fun p:Value×Value=>(kS p.1,p.2)) hm.2
 simpa [map_map,Function.comp_def,aU,kS] using this
theorem yH {P:Program} {ty:TypeId} {p mb:Nat} {m:List (ByteArray×Value)} {es:Array MapEntry} {clock:Nat} (hm:dG aU es clock m) {G:List (ByteArray×Value)→List aE} {End:Heap→Prop} {Body:(Unit→Heap→Prop)→Value→Heap→Prop} {h:Heap}
  (start:aD (pt p (.mapIter (some mb) clock #[] clock)::pt mb (.map es clock)::G []) h)
  (fin:∀ done h',done.Perm m→aD (pt mb (.map es clock)::G done) h'→End h')
  (body:∀ (o:Obj) done k v h' (again:Unit→Heap→Prop),(∃ rest,(done++(k,v)::rest).Perm m)→aD (pt p o::pt mb (.map es clock)::G done) h'→
   (∀ h'',aD (pt p o::pt mb (.map es clock)::G (done++[(k,v)])) h''→again () h'')→Body again (.tuple #[.string k,v]) h') :
  aZ (fun again (_:Unit) h3=>aX P (Instr.next (.pointer (some ⟨p,0,none⟩)) false ty) h3 fun r2 h4=>(r2=.tuple #[.bool false]∧End h4)∨
   (∃ k0 x1:Value,r2=.tuple #[.bool true,k0,x1]∧aX P (Instr.entry (.pointer (some ⟨p,0,none⟩))) h4 fun r3 h5=>Body again r3 h5)) () h:=by
 have hn:=hm.1.2.1
 refine ⟨fun _ h2=>∃ seen done c0,aD (pt p (.mapIter (some mb) clock seen c0)::pt mb (.map es clock)::G (done.map fun e:MapEntry=>(kS e.key,e.val))) h2∧cF es seen done∧clock≤c0,
  fun _ h2=>bU ⟨p,0,none⟩ h2,⟨#[],[],clock,start,cF.start es,av _⟩,?_⟩
 rintro _ h2 ⟨seen,done,c0,H2,hw,hc⟩
 have hmb:=(H2.mv 1).get
 refine kn H2 hmb hm.1.1 hc ?_ ?_
 · intro h0;refine .inl ⟨rfl,fin (done.map fun e:MapEntry=>(kS e.key,e.val)) h2 ?_ H2.drop⟩;rw [← hm.pairs];exact (hw.fin h0).map _
 · intro e he h3 H3;have hmb3:=(H3.mv 1).get;have hee:=cF.mem he;refine .inr ⟨_,_,rfl,?_⟩;refine i6 H3 hmb3 hee hn ?_;rw [hm.strKey hee];refine body (.mapIter (some mb) clock (seen.push e.born) clock) (done.map fun e:MapEntry=>(kS e.key,e.val)) (kS e.key) e.val h3 _ ?_ H3 fun h4 H4=>⟨⟨seen.push e.born,done++[e],clock,?_,hw.step hn he,av _⟩,?_⟩
   · refine ⟨(leftOf es (seen.push e.born)).toList.map fun e:MapEntry=>(kS e.key,e.val),?_⟩;have hp:=(hw.step hn he).perm.map fun e:MapEntry=>(kS e.key,e.val)
     rw [hm.pairs] at hp;simpa using hp
   · rw [map_append];exact H4
   · have a1:bU ⟨p,0,none⟩ h4=(leftOf es (seen.push e.born)).size:=by
      unfold bU;simp only [H4.get,(H4.mv 1).get]
     have a2:bU ⟨p,0,none⟩ h2=(leftOf es seen).size:=by
      unfold bU;simp only [H2.get,hmb]
     show bU ⟨p,0,none⟩ h4<bU ⟨p,0,none⟩ h2;rw [a1,a2];exact cF.less hn he
theorem jj {l m:List Nat} (h:l.Perm m):l.sum=m.sum:=by
 induction h with
 | nil=>rfl
 | cons x _ ih=>simp [ih]
 | swap x y l=>simp; omega
 | trans _ _ h1 h2=>exact h1.trans h2
theorem py {α:Type} (f:α→List Nat) (g:Nat→Nat):∀ l:List α,((l.flatMap f).map g).sum=(l.map fun d=>((f d).map g).sum).sum
 | []=>rfl
 | a::l=>by rw [flatMap_cons,map_append,sum_append,py f g l,map_cons,sum_cons]
def n3 (A:AF.FS) (l:AF.bG) (k:ByteArray):Nat:=match AF.of l k with
 | some x=>(A.X x).b.length
 | none=>0
def xl (A:AF.FS) (l:AF.bG):Nat:=(l.map fun p=>(A.X p.2).b.length).sum
def mY (A:AF.FS) (k:ByteArray):Nat:=match A.at k with
 | some i=>xl A (A.D i).now
 | none=>0
theorem zG {α:Type} {l:List α} (hn:l.Nodup) {i j:Nat} {x:α} (h1:l[i]? = some x) (h2:l[j]? = some x):i=j:=by
 obtain ⟨hi,e1⟩:=aj.1 h1
 obtain ⟨hj,e2⟩:=aj.1 h2
 have:=List.pairwise_iff_getElem.1 hn
 rcases Nat.lt_trichotomy i j with h | h | h
 · exact absurd (e1.trans e2.symm) (this i j hi hj h)
 · exact h
 · exact absurd (e2.trans e1.symm) (this j i hj hi h)
theorem Kd {A:AF.FS} (W:A.WF) {i:Nat} {d:AF.cG} (hd:A.dirs[i]? = some d):A.at d.name=some i:=by
 cases ha:A.at d.name with
 | none=>exact absurd rfl (AF.qg ha d (ai hd))
 | some j=>
   obtain ⟨e,he,hn⟩:=AF.qf ha;have hnd:=pG W;have h1:(A.dirs.map (·.name))[i]? = some d.name:=by rw [getElem?_map,hd]; rfl
   have h2:(A.dirs.map (·.name))[j]? = some d.name:=by rw [getElem?_map,he,← hn]; rfl
   rw [zG hnd h1 h2]
theorem t7 {A:AF.FS} (W:A.WF) {i:Nat} {d:AF.cG} (hd:A.dirs[i]? = some d):mY A d.name=xl A d.now:=by
 unfold mY
 rw [Kd W hd]
 simp only [AF.jz hd]
theorem D1 {A:AF.FS} (W:A.WF):A.used=((A.dirs.map (·.name)).map (mY A)).sum:=by
 unfold AF.FS.used AF.FS.idx
 rw [py,map_map]
 congr 1
 apply map_congr_left
 intro d hd
 obtain ⟨i,hi⟩:=getElem?_of_mem hd
 show _=mY A d.name
 rw [t7 W hi,map_map]
 rfl
theorem A9 {A:AF.FS} {q:tz} (W:A.WF) (hq:mT A q):(q.m.map fun e=>mY A e.1).sum=A.used:=by
 rw [D1 W,← jj ((kB hq).map (mY A)),map_map]
 rfl
theorem zm {A:AF.FS} {l:AF.bG} (hu:AF.Up l):((l.map (·.1)).map (n3 A l)).sum=xl A l:=by
 unfold xl
 rw [map_map]
 congr 1
 apply map_congr_left
 intro p hp
 show n3 A l p.1=_
 unfold n3
 rw [AF.xC hu.nodup (f:=p.2) hp]
theorem Bm {A:AF.FS} {xbs:List Nat} {l:AF.bG} {m:List (ByteArray×Value)} (hu:AF.Up l) (hp:m.Perm (l.map (kz xbs))):(m.map fun e=>n3 A l e.1).sum=xl A l:=by
 rw [← zm hu,jj (hp.map fun e=>n3 A l e.1),map_map,map_map]
 rfl
section
variable {b:Nat} {A:AF.FS} {q:tz} {F:List aE} {h:Heap}
theorem tf {xbs:List Nat} {fs:List AF.dy} {x:Nat} {y:AF.dy} {xb:Nat} (H:aD (cj xbs fs::F) h) (hx:fs[x]? = some y) (hb:xbs[x]? = some xb):∃ (a:Option Addr) (c:Nat),h[xb]? = some (.cells #[.slice a y.b.length c,.int .i64 (y.safe:Int)] 120 (0,0))∧dF h a (y.b.map nv):=by
 obtain ⟨r,H2⟩:=bg.1 (iB H hx hb)
 have H3:=H2.open
 exact ⟨r.1,r.2,H3.get,aH (H3.mv 1)⟩
theorem rJ {room used0 steps fuse:Int} {off:Bool} (W:A.WF) (hq:mT A q) (H:aD (jI b room used0 steps fuse off q.md::bF aU q.md q.m::cj q.xbs A.files::dp q.xbs q.fbs A.dirs::F) h) :
  aC prog 53 [aI b] h fun v h'=>v=.tuple #[]∧aD (jI b room (A.used:Int) steps fuse off q.md::bF aU q.md q.m::cj q.xbs A.files::dp q.xbs q.fbs A.dirs::F) h':=by
 apply Ij.ap
 unfold MO
 simp only [aY,aV]
 have hu:=W.used_le
 refine bQ (i:=1) (v:=.int .i64 0) (c':=#[.int .i64 room,.int .i64 0,.int .i64 steps,.int .i64 fuse,.bool off,.map (some q.md)]) H (by show 1<6; decide) rfl fun h1 H1=>?_
 refine gA (v:=.map (some q.md)) H1 rfl ?_
 rw [bY]
 obtain ⟨es,clock,hm,H2⟩:=cx (H1.mv 1)
 refine eN (k:=9) (e:=106) (by kernel_rfl) H2 H2.get fun p h2 H3=>?_
 rw [bD]
 refine yH (mb:=q.md) hm (G:=fun done=>jI b room (((done.map fun e:ByteArray×Value=>mY A e.1).sum:Nat):Int) steps fuse off q.md::cj q.xbs A.files::dp q.xbs q.fbs A.dirs::F) ?_ ?_ ?_
 · exact H3
 · intro done h3 hp H4;refine ⟨trivial,?_⟩;have e:(done.map fun e:ByteArray×Value=>mY A e.1).sum=A.used:=by rw [jj (hp.map fun e=>mY A e.1),A9 W hq]
   rw [e] at H4;exact (cw hm H4).mv 1
 · intro o done k v h3 again ⟨rest,hrest⟩ H4 hagain;have hmem:(k,v)∈q.m:=hrest.mem_iff.1 (by simp);obtain ⟨i,d,fb,hdi,hfi,rfl,rfl⟩:=(kA hq).1 hmem;have w:=W.each d (ai hdi);have htot:(done.map fun e:ByteArray×Value=>mY A e.1).sum+xl A d.now≤A.used:=by
    have:=jj (hrest.map fun e:ByteArray×Value=>mY A e.1);rw [A9 W hq,map_append,sum_append,map_cons,sum_cons,t7 W hdi] at this;omega
   refine ⟨_,some ⟨fb,0,none⟩,rfl,?_⟩;simp only [aY,aV];obtain ⟨nb,bb,a,c,H5⟩:=jN (H4.mv 4) hdi hfi;refine gJ (v:=.map (some nb)) H5.get rfl ?_;rw [bY];obtain ⟨m2,hp2,H6⟩:=fC (H5.mv 1);obtain ⟨es2,clock2,hm2,H7⟩:=cx H6;refine eN (k:=9) (e:=114) Jk H7 H7.get fun p2 h4 H8=>?_;rw [bD];refine yH (mb:=nb) hm2 (G:=fun done2=>jI b room (((done.map fun e:ByteArray×Value=>mY A e.1).sum+(done2.map fun e:ByteArray×Value=>n3 A d.now e.1).sum:Nat):Int) steps fuse off q.md::cj q.xbs A.files::
    pt fb (mJ nb bb a d.pend.length c)::cC q.xbs bb d.base::kl (nh q.xbs) 112 a d.pend.length c d.pend::nu q.xbs q.fbs A.dirs i::pt p o::pt q.md (.map es clock)::F) ?_ ?_ ?_
   · exact H8.ordT 10 [0,1,8,9,2,3,4,5,6,7]
   · intro done2 h5 hp3 H9;have e:(done2.map fun e:ByteArray×Value=>n3 A d.now e.1).sum=mY A d.name:=by
      rw [jj (hp3.map fun e=>n3 A d.now e.1),Bm w.ok.up hp2,t7 W hdi]
     rw [e] at H9;refine hagain h5 ?_;rw [map_append,sum_append,map_cons,map_nil,sum_cons,List.sum_nil,Nat.add_zero];have H10:=dv hp2 (cw hm2 H9);have H11:=nt (d:=d) hdi hfi (H10.ordT 9 [3,0,4,5,6,7,8,1,2]);rw [ke hdi] at H11;exact H11.ordT 5 [1,2,3,4,0]
   · intro o2 done2 k2 v2 h5 again2 ⟨rest2,hrest2⟩ H9 hagain2;have hmem2:(k2,v2)∈d.now.map (kz q.xbs):=hp2.mem_iff.1 (hrest2.mem_iff.1 (by simp));obtain ⟨pr,hpr,epr⟩:=List.mem_map.1 hmem2;obtain ⟨k3,x⟩:=pr;simp only [kz,Prod.mk.injEq] at epr;obtain ⟨rfl,rfl⟩:=epr;obtain ⟨y,xb,hy,hxb,hgd⟩:=yr hq (w.ok.each _ hpr).1;have hlen:n3 A d.now k3=y.b.length:=by
      unfold n3;rw [AF.xC w.ok.up.nodup hpr];simp only [AF.rA hy]
     have htot2:(done2.map fun e:ByteArray×Value=>n3 A d.now e.1).sum+y.b.length≤xl A d.now:=by
      have:=jj (hrest2.map fun e:ByteArray×Value=>n3 A d.now e.1);rw [Bm w.ok.up hp2,map_append,sum_append,map_cons,sum_cons,hlen] at this;omega
     refine ⟨_,some ⟨xb,0,none⟩,by rw [hgd]; rfl,?_⟩;simp only [aY,aV];refine gA (v:=.int .i64 (((done.map fun e:ByteArray×Value=>mY A e.1).sum+(done2.map fun e:ByteArray×Value=>n3 A d.now e.1).sum:Nat):Int)) (H9.mv 2) rfl ?_;rw [aJ];obtain ⟨ya,yc,hyb,_⟩:=tf (H9.mv 3) hy hxb;refine gJ (v:=.slice ya y.b.length yc) hyb rfl ?_;rw [aF,← Int.natCast_add,dt (by omega)];refine bQ (i:=1) (c':=#[.int .i64 room,.int .i64 (((done.map fun e:ByteArray×Value=>mY A e.1).sum+(done2.map fun e:ByteArray×Value=>n3 A d.now e.1).sum+y.b.length:Nat):Int),.int .i64 steps,.int .i64 fuse,.bool off,.map (some q.md)]) (H9.mv 2) (by show 1<6; decide) rfl fun h6 H10=>?_;refine hagain2 h6 ?_;rw [map_append,sum_append,map_cons,map_nil,sum_cons,List.sum_nil,Nat.add_zero,hlen,← Nat.add_assoc];exact H10.ordT 3 [1,2,0]
end
theorem Nz:prog.underlying 107=some (.slice 112):=by kernel_rfl
theorem JB:fS prog 107=true:=by kernel_rfl
theorem JW:ig prog 112 8=true:=by kernel_rfl
section
variable {b:Nat} {A:AF.FS} {q:tz} {F:List aE} {h:Heap}
theorem q9 {B:AF.FS} (hq:mT A q) (hn:B.dirs.map (·.name)=A.dirs.map (·.name)) (hf:B.files.length=A.files.length):mT B q:=by
 have hl:B.dirs.length=A.dirs.length:=by have:=congrArg List.length hn; simpa using this
 refine ⟨hq.1.trans (.of_eq ?_),by rw [hq.2.1,hl],by rw [hq.2.2,hf]⟩
 apply List.ext_getElem?
 intro i
 rw [getElem?_zipWith,getElem?_zipWith]
 have h1:(B.dirs.map (·.name))[i]? = (A.dirs.map (·.name))[i]? := by rw [hn]
 rw [getElem?_map,getElem?_map] at h1
 cases ha:A.dirs[i]? with
 | none=>
   rw [ha] at h1
   cases hb:B.dirs[i]? with
   | none=>rfl
   | some d=>rw [hb] at h1; cases h1
 | some e=>
   rw [ha] at h1
   cases hb:B.dirs[i]? with
   | none=>rw [hb] at h1; cases h1
   | some d=>
     rw [hb] at h1;simp only [Option.map_some,Option.some.injEq] at h1
     cases q.fbs[i]? with
     | none=>rfl
     | some fb=>simp only [h1]
theorem kR {ds:List AF.cG} {i:Nat} {g:AF.cG→AF.cG} (hg:∀ d,(g d).name=d.name):(ds.modify i g).map (·.name)=ds.map (·.name):=by
 apply List.ext_getElem?
 intro j
 rw [getElem?_map,getElem?_map,ii]
 cases ds[j]? with
 | none=>rfl
 | some d=>
   by_cases h:i=j
   · simp [h,hg]
   · simp [h]
theorem qe (hq:mT A q) (i:Nat) (o:AF.Op):mT (A.did i o) q:=q9 hq (kR fun d=>rfl) rfl
theorem pv {i:Nat} {d:AF.cG} {fb:Nat} {o:AF.Op} {fv:Fn} {fp fc:Array Value} (W:A.WF) (W2:(A.stepOn.did i o).WF) (hq:mT A q) (hd:A.dirs[i]? = some d) (hf:q.fbs[i]? = some fb) (hfit:AF.mM A.files.length d.now o) (hs:A.steps<1099511627776)
  (H:aD (zR b A q (nh q.xbs o (.func fv fp fc)::F)) h) :
  aC prog 125 [aI b,aI fb,.func fv fp fc] h fun v h'=>v=.int .i64 ((A.step fun g=>g.did i o).2:Int)∧aD (zR b (A.step fun g=>g.did i o).1 q F) h':=by
 apply FP.ap
 unfold Lm
 refine (j9 W hs H).mono ?_
 rintro v h1 (⟨h0,rfl,H1⟩ | ⟨h0,rfl,H1⟩)
 · rw [aJ,show ((60:Int)!=0)=true from rfl,ab];have e:(A.step fun g=>g.did i o)=({ A with off:=true },60):=by unfold AF.FS.step; rw [al h0]
   rw [e];exact ⟨rfl,(H1.mv 4).drop⟩
 · rw [aJ,show ((0:Int)!=0)=false from rfl,aa];simp only [aY,aV];have e:(A.step fun g=>g.did i o)=(A.stepOn.did i o,0):=by unfold AF.FS.step; rw [ak h0]
   rw [e];have w:=W.each d (ai hd);obtain ⟨nb,bb,a,c,H2⟩:=jN (H1.mv 3) hd hf;refine gJ (v:=.map (some nb)) H2.get rfl ?_;rw [bY];have H3:aD (cC q.xbs nb d.now::nh q.xbs o (.func fv fp fc)::pt fb (mJ nb bb a d.pend.length c)::cC q.xbs bb d.base::kl (nh q.xbs) 112 a d.pend.length c d.pend::nu q.xbs q.fbs A.dirs i::
    cL b A.stepOn q.md::bF aU q.md q.m::cj q.xbs A.files::F) h1:=H2.ordT 9 [1,8,0,2,3,4,5,6,7]
   refine (yE H3 w.ok hfit).mono ?_;rintro r h2 ⟨rfl,H4⟩;refine ⟨rfl,?_⟩;refine gA (i:=2) (v:=.slice a d.pend.length c) (H4.mv 2) rfl ?_;rw [aF];refine aQ H4 fun b0 h3 H5=>?_;have hpl:=w.pend;have hr:dF h3 (some ⟨b0,0,none⟩) [.func fv fp fc]:=by
    intro j v hv;rw [dU H5.get]
    cases j with
    | zero=>exact hv
    | succ j=>simp at hv
   have H6:aD (kl (nh q.xbs) 112 a d.pend.length c d.pend::nh q.xbs o (.func fv fp fc)::pt b0 (.cells #[.func fv fp fc] 112 (0,0))::cC q.xbs nb (AF.does d.now o)::pt fb (mJ nb bb a d.pend.length c)::cC q.xbs bb d.base::nu q.xbs q.fbs A.dirs i::
    cL b A.stepOn q.md::bF aU q.md q.m::cj q.xbs A.files::F) h3:=H5.ordT 10 [5,2,0,1,3,4,6,7,8,9]
   refine JF (b:=8) Nz JB JW (by omega) H6 rfl hr fun a2 c2 h4 H7=>?_;rw [aF];refine bQ (b:=fb) (i:=2) (c':=#[.map (some nb),.map (some bb),.slice a2 (d.pend.length+1) c2]) (H7.mv 3) (by show 2<3; decide) rfl fun h5 H8=>?_;have H9:aD (pt fb (mJ nb bb a2 (d.did o).pend.length c2)::cC q.xbs nb (d.did o).now::cC q.xbs bb (d.did o).base::kl (nh q.xbs) 112 a2 (d.did o).pend.length c2 (d.did o).pend::nu q.xbs q.fbs A.dirs i::
    cL b A.stepOn q.md::bF aU q.md q.m::cj q.xbs A.files::F) h5:=by
    have e2:(d.did o).pend.length=d.pend.length+1:=by
     show (d.pend++[o]).length=_;simp
    rw [e2];exact ((H8.mv 2).drop).ordT 8 [0,2,3,1,4,5,6,7]
   have H10:=nt hd hf H9;have e3:A.dirs.set i (d.did o)=(A.stepOn.did i o).dirs:=(dw (l:=A.dirs) (fun d:AF.cG=>d.did o) hd).symm;rw [e3] at H10;refine (rJ (A:=A.stepOn.did i o) W2 (qe hq i o) (H10.ordT 4 [1,2,3,0])).mono ?_;rintro r h6 ⟨rfl,H11⟩;exact ⟨rfl,rfl,H11⟩
end
theorem zo {l m:List aE} (h:l.Perm m) {r:fu} (H:mF l r):mF m r:=by
 induction h generalizing r with
 | nil=>exact H
 | cons x _ ih=>exact fI (fun _ h=>h) (fun _ h=>ih h) H
 | swap x y l=>exact qy H
 | trans _ _ h1 h2=>exact h2 (h1 H)
theorem sQ {l m F:List aE} {h:Heap} (hp:l.Perm m) (H:aD (cr l::F) h):aD (cr m::F) h:=H.imp fun r hr=>zo hp hr
theorem n6 (d:AF.cG):∀ ds:List AF.cG,∃ k,k≤ds.length∧AF.dd d ds=ds.take k++d::ds.drop k
 | []=>⟨0,av _,rfl⟩
 | e::ds=>by
   unfold AF.dd;split
   · exact ⟨0,au _,rfl⟩
   · obtain ⟨k,hk,he⟩:=n6 d ds;exact ⟨k+1,by simp only [ao]; omega,by rw [he]; rfl⟩
theorem sf {α β γ:Type} (E:α→β→γ) (x:α) (y:β) (xs:List α) (ys:List β) (k:Nat) (hl:xs.length=ys.length):(zipWith E (xs.take k++x::xs.drop k) (ys.take k++y::ys.drop k)).Perm (E x y::zipWith E xs ys):=by
 rw [zipWith_append (by rw [aq,aq,hl]),zipWith_cons_cons]
 refine List.perm_middle.trans (.cons _ (.of_eq ?_))
 conv=>rhs; rw [← take_append_drop k xs,← take_append_drop k ys]
 rw [zipWith_append (by rw [aq,aq,hl])]
theorem NA:prog.underlying 71=some (.map 9 106):=by kernel_rfl
section
variable {b:Nat} {A:AF.FS} {q:tz} {F:List aE} {h:Heap}
theorem sN {xbs:List Nat} {mb:Nat} (H:aD (pt mb (.map #[] 0)::F) h):aD (cC xbs mb []::F) h:=dv (m:=[]) (.refl _) (qO aU H)
theorem rH {dir:ByteArray} (W:A.WF) (hs:A.steps<1099511627776) (hd:dir.size<4611686018427387904) (H:aD (co b A::F) h) :
  aC prog 65 [aI b,.string dir] h fun v h'=>v=.int .i64 ((A.mkdir dir).2:Int)∧aD (co b (A.mkdir dir).1::F) h':=by
 obtain ⟨q,hq,H1⟩:=dl H
 apply HW.ap
 unfold MC
 refine (hY (ss:=[]) (a:=none) (c:=0) W hq H1 rfl rfl (show 0<1000 by omega) hd (by simp)).mono ?_
 rintro v h1 ⟨rfl,hcase⟩
 rcases hcase with ⟨i,d,fb,he,hdi,hfi,rfl⟩ | ⟨e,he,hne,rfl⟩
 · refine ⟨_,0,rfl,?_⟩;rw [show ((0:Int)==0)=true from rfl,ab];unfold AF.FS.mkdir;rw [he];exact ⟨rfl,bu q hq H1⟩
 · refine ⟨none,(e:Int),rfl,?_⟩;have e0:e≠0:=by omega
   rw [om e0,aa];by_cases h61:e=61
   · subst h61;rw [show (((61:Nat):Int)!=61)=false from rfl,aa];simp only [aY];refine gA (v:=.map (some q.md)) H1 rfl ?_;rw [bY];obtain ⟨es,clock,hm,hes⟩:=fD (H1.mv 1);refine ⟨es,hes,?_⟩;have hml:q.m.length=A.dirs.length:=by have:=(kB hq).length_eq; simpa using this
     rw [hm.size,hml];by_cases h64:64≤A.dirs.length
     · rw [af (show ((A.dirs.length:Int)≥64) by omega),ab];unfold AF.FS.mkdir;rw [he];simp only [if_true,al h64];exact ⟨rfl,bu q hq H1⟩
     · rw [ae (show ¬ ((A.dirs.length:Int)≥64) by omega),aa];have em:A.mkdir dir=A.step fun g=>{ g with dirs:=AF.dd ⟨dir,[],[],[]⟩ g.dirs }:=by
        unfold AF.FS.mkdir;rw [he];simp only [if_true,ak h64]
       have W2:=W.mkdir dir;rw [em] at W2 ⊢;refine (j9 W hs H1).mono ?_;rintro v h2 (⟨h0,rfl,H2⟩ | ⟨h0,rfl,H2⟩)
       · rw [aJ,show ((60:Int)!=0)=true from rfl,ab];unfold AF.FS.step;rw [al h0];exact ⟨rfl,bu (A:={ A with off:=true }) q hq H2⟩
       · rw [aJ,show ((0:Int)!=0)=false from rfl,aa];unfold AF.FS.step at W2 ⊢;rw [ak h0] at W2 ⊢;refine gA (v:=.map (some q.md)) H2 rfl ?_;rw [bY];refine aQ H2 fun b0 h3 H3=>aQ H3 fun b1 h4 H4=>aQ H4 fun b2 h5 H5=>?_;refine fP (E:=aU) (k:=dir) NA u9 (H5.mv 4) fun h6 H6=>?_;obtain ⟨k,hk,hins⟩:=n6 ⟨dir,[],[],[]⟩ A.dirs;have hfl:A.dirs.length=q.fbs.length:=hq.2.1.symm;refine ⟨rfl,bu (A:={ A.stepOn with dirs:=AF.dd ⟨dir,[],[],[]⟩ A.stepOn.dirs }) ⟨q.md,q.fbs.take k++b2::q.fbs.drop k,q.xbs,gt q.m dir (aI b2)⟩ ⟨?_,?_,hq.2.2⟩ ?_⟩
         · show (gt q.m dir (aI b2)).Perm (zipWith _ (AF.dd ⟨dir,[],[],[]⟩ A.dirs) _);rw [hins];have hno:∀ p∈q.m,p.1≠dir:=by
            rintro ⟨k,v⟩ hp e;obtain ⟨i,d,fb,h1,_,h2,_⟩:=(kA hq).1 hp;exact AF.qg (AF.vH he).2 d (ai h1) (by rw [← h2]; exact e)
           refine (sg (nq W hq)).trans ?_;rw [ph hno];exact (hq.1.cons _).trans (sf (fun (d:AF.cG) fb=>(d.name,aI fb)) ⟨dir,[],[],[]⟩ b2 A.dirs q.fbs k hfl).symm
         · show (q.fbs.take k++b2::q.fbs.drop k).length=(AF.dd ⟨dir,[],[],[]⟩ A.dirs).length;rw [(AF.iC _ _).length_eq];simp only [am,aq,ao,length_drop];omega
         · have hdir:aD (dp q.xbs (q.fbs.take k++b2::q.fbs.drop k) (AF.dd ⟨dir,[],[],[]⟩ A.dirs)::bF aU q.md (gt q.m dir (aI b2))::cL b A.stepOn q.md::cj q.xbs A.files::F) h6:=by
            have H7:aD (pt b0 (.map #[] 0)::pt b1 (.map #[] 0)::pt b2 (mJ b0 b1 none 0 0)::dp q.xbs q.fbs A.dirs::bF aU q.md (gt q.m dir (aI b2))::cL b A.stepOn q.md::cj q.xbs A.files::F) h6:=H6.ordT 7 [3,2,1,6,0,4,5];have H8:=sN (xbs:=q.xbs) ((sN (xbs:=q.xbs) H7).mv 1);have H9:=nV (nh q.xbs) 112 H8;have H10:aD (uL q.xbs ⟨dir,[],[],[]⟩ b2::dp q.xbs q.fbs A.dirs::bF aU q.md (gt q.m dir (aI b2))::cL b A.stepOn q.md::cj q.xbs A.files::F) h6:=by
             refine bg.2 ⟨⟨b0,b1,none,0⟩,aD.shut (m:=[pt b2 (mJ b0 b1 none 0 0),cC q.xbs b0 [],cC q.xbs b1 [],kl (nh q.xbs) 112 none 0 0 []]) ?_⟩;exact H9.ordT 4 [3,2,1,0]
            have H11:aD (cr (uL q.xbs ⟨dir,[],[],[]⟩ b2::zipWith (uL q.xbs) A.dirs q.fbs)::bF aU q.md (gt q.m dir (aI b2))::cL b A.stepOn q.md::cj q.xbs A.files::F) h6:=by
             exact H10.consMany
            rw [hins];exact sQ (sf (uL q.xbs) ⟨dir,[],[],[]⟩ b2 A.dirs q.fbs k hfl).symm H11
           have eu:AF.FS.used { A.stepOn with dirs:=AF.dd ⟨dir,[],[],[]⟩ A.stepOn.dirs }=A.used:=by
            have:(AF.FS.idx { A.stepOn with dirs:=AF.dd ⟨dir,[],[],[]⟩ A.stepOn.dirs }).Perm A.idx:=by
             show ((AF.dd ⟨dir,[],[],[]⟩ A.dirs).flatMap _).Perm _;exact ((AF.iC _ _).flatMap_right _).trans (.of_eq rfl)
            exact jj (this.map _)
           unfold cL;rw [eu];exact hdir.ordT 4 [2,1,3,0]
   · have:((e:Int)!=61)=true:=by rw [bne_iff_ne]; omega
     rw [this,ab];unfold AF.FS.mkdir;rw [he];simp only [ak h61];exact ⟨by trivial,bu q hq H1⟩
end
def su (n:Nat) (xs ys:List Nat):Prop:=∀ x,x<n→xs.getD x 0=ys.getD x 0
theorem nk {n:Nat} {xs ys:List Nat} (hs:su n xs ys) {mb:Nat} {l:AF.bG} (hk:∀ p∈l,p.2<n):cC xs mb l=cC ys mb l:=by
 have e:l.map (kz xs)=l.map (kz ys):=map_congr_left fun p hp=>by unfold kz; rw [hs p.2 (hk p hp)]
 have e2:(l.map fun p=>(p.1,aI (xs.getD p.2 0)))=l.map fun p=>(p.1,aI (ys.getD p.2 0)):=e
 unfold cC
 rw [e2]
theorem Ec {n:Nat} {xs ys:List Nat} (hs:su n xs ys) {o:AF.Op} (hk:∀ x∈AF.eX o,x<n) (v:Value):nh xs o v=nh ys o v:=by
 cases o with
 | create k f=>simp only [nh,hs f (hk f (by simp [AF.eX]))]
 | rename a b=>rfl
 | remove a=>rfl
theorem mc {α β γ:Type} {E G:α→β→γ}:∀ {xs:List α} {ys:List β},(∀ x∈xs,∀ y,E x y=G x y)→zipWith E xs ys=zipWith G xs ys
 | [],ys,h=>by simp
 | x::xs,[],h=>by simp
 | x::xs,y::ys,h=>by
   rw [zipWith_cons_cons,zipWith_cons_cons,h x (by simp),mc fun z hz=>h z (aB _ hz)]
theorem xv {α:Type} {E G:α→Value→aE} {e:TypeId} {a:Option Addr} {l c:Nat} {xs:List α} (h:∀ x∈xs,∀ v,E x v=G x v):kl E e a l c xs=kl G e a l c xs:=by
 unfold kl
 congr 1
 funext vs
 rw [mc h]
theorem zp {d:AF.cG} {o:AF.Op} (ho:o∈d.pend) {x:Nat} (hx:x∈AF.eX o):x∈d.speaks:=List.mem_append.2 (.inr (List.mem_flatMap.2 ⟨o,ho,hx⟩))
theorem wr {n s:Nat} {xs ys:List Nat} (hs:su n xs ys) {d:AF.cG} (w:d.WF n s) (fb:Nat):uL xs d fb=uL ys d fb:=by
 unfold uL
 congr 1
 funext r
 rw [nk hs fun p hp=>(w.ok.each p hp).1,nk hs fun p hp=>(w.runs.first.each p hp).1,xv fun o ho v=>Ec hs (fun x hx=>AF.kd w (zp ho hx)) v]
theorem tm {n s:Nat} {xs ys fbs:List Nat} (hs:su n xs ys) {ds:List AF.cG} (w:∀ d∈ds,d.WF n s):dp xs fbs ds=dp ys fbs ds:=by
 unfold dp
 rw [mc fun d hd fb=>wr hs (w d hd) fb]
theorem m5 (xs:List Nat) (x:Nat):su xs.length xs (xs++[x]):=fun i hi=>by
 rw [getD_eq_getElem?_getD,getD_eq_getElem?_getD,List.getElem?_append_left hi]
theorem tY {A:AF.FS} (W:A.WF) (y:AF.dy):AF.FS.used { A with files:=A.files++[y] }=A.used:=by
 unfold AF.FS.used
 congr 1
 apply map_congr_left
 intro x hx
 have:=W.idx_lt hx
 show ((A.files++[y]).getD x default).b.length=(A.files.getD x default).b.length
 rw [getD_eq_getElem?_getD,getD_eq_getElem?_getD,List.getElem?_append_left this]
section
variable {b:Nat} {A:AF.FS} {q:tz} {F:List aE} {h:Heap}
theorem Cb {xb:Nat} (H:aD (pt xb (.cells #[.slice none 0 0,.int .i64 0] 120 (0,0))::F) h):aD (wm ⟨[],0⟩ xb::F) h:=by
 refine bg.2 ⟨(none,0),aD.shut (m:=[pt xb (.cells #[.slice none 0 0,.int .i64 ((0:Nat):Int)] 120 (0,0)),aL 5 1 none 0 0 []]) ?_⟩
 exact (bE 5 1 H).mv 1
theorem Hr {b0:Nat} {e:TypeId} {v:Value} (H:aD (pt b0 (.cells #[v] e (0,0))::F) h):dF h (some ⟨b0,0,none⟩) [v]:=by
 intro j u hv
 rw [dU H.get]
 cases j with
 | zero=>exact hv
 | succ j=>simp at hv
theorem rG {dir name:ByteArray} (W:A.WF) (hs:A.steps<1099511627776) (hd:dir.size<4611686018427387904) (hn:name.size<4611686018427387904) (H:aD (co b A::F) h) :
  aC prog 66 [aI b,.string dir,.string name] h fun v h'=>v=.int .i64 ((A.create dir name).2:Int)∧aD (co b (A.create dir name).1::F) h':=by
 obtain ⟨q,hq,H0⟩:=dl H
 apply HV.ap
 unfold MB
 refine aQ H0 fun b0 h1 H1=>?_
 refine gJ (v:=.string name) H1.get rfl ?_
 rw [aW]
 refine aQ H1 fun b1 h2 H2=>?_
 have H3:aD (zR b A q (pt b0 (.cells #[.string name] 9 (0,0))::pt b1 (.cells #[.string name] 9 (0,0))::F)) h2:=H2.ordT 6 [2,3,4,5,1,0]
 refine (hY (ss:=[name]) W hq H3 (Hr H2) rfl (show 1<1000 by omega) hd (fun s hs=>by simp at hs; rw [hs]; exact hn)).mono ?_
 rintro v h3 ⟨rfl,hcase⟩
 have Hd:aD (zR b A q F) h3:=(((H3.mv 5).drop).mv 4).drop
 rcases hcase with ⟨i,d,fb,he,hdi,hfi,rfl⟩ | ⟨e,he,hne,rfl⟩
 · have w:=W.each d (ai hdi);obtain ⟨nb,bb,a,c,es,hfb,hes,hsz,hlk⟩:=lT (H3.mv 3) hdi hfi w.ok.up;obtain ⟨f,hf,hl⟩:=hlk name;refine ⟨some ⟨fb,0,none⟩,0,rfl,?_⟩;rw [show ((0:Int)!=0)=false from rfl,aa];simp only [aY,aV];have rd:∀ K:Value→Prop,K (.map (some nb))→Ld h3 ⟨fb,0,none⟩ K:=fun K hK=>⟨_,by rw [bj hfb]; rfl,hK⟩
   refine rd _ ?_;rw [bY];refine gJ (v:=.string name) (H3.mv 4).get rfl ?_;rw [aW];refine ⟨es,hes,f,hf,lg hl ?_⟩;have hD:=AF.jz hdi
   cases ho:AF.of d.now name with
   | some x=>
     show bif (true:Bool) then _ else _
     rw [ab];have e:A.create dir name=(A,63):=by
      unfold AF.FS.create;rw [he];simp only [hD,ho,Option.isSome_some,if_true]
     rw [e];exact ⟨rfl,bu q hq Hd⟩
   | none=>
     show bif (false:Bool) then _ else _
     rw [aa];refine rd _ ?_;rw [bY];refine ⟨es,hes,?_⟩;rw [hsz];by_cases h64:4096≤d.now.length
     · rw [af (show ((d.now.length:Int)≥4096) by omega),ab];have e:A.create dir name=(A,66):=by
        unfold AF.FS.create;rw [he];simp only [hD,ho,Option.isSome_none,Bool.false_eq_true,if_false,al h64]
       rw [e];exact ⟨rfl,bu q hq Hd⟩
     · rw [ae (show ¬ ((d.now.length:Int)≥4096) by omega),aa];have e:A.create dir name=A.step fun g=>AF.FS.did { g with files:=g.files++[⟨[],0⟩] } i (.create name g.files.length):=by
        unfold AF.FS.create;rw [he];simp only [hD,ho,Option.isSome_none,Bool.false_eq_true,if_false,ak h64]
       refine aQ H3 fun b2 h4 H4=>aQ H4 fun b3 h5 H5=>?_;refine ud (v:=aI b2) H5 fun h6 H6=>?_;obtain ⟨_,hdr,hr,_,_⟩:=AF.dD he;have hrn:=hr name (by simp);have hx:(q.xbs++[b2]).getD A.files.length 0=b2:=by
        rw [← hq.2.2,getD_eq_getElem?_getD,List.getElem?_append_right (av _)];simp
       have H7:=(H6.freeze.mv 6).freeze;have H8:aD (cL b A q.md::bF aU q.md q.m::cj (q.xbs++[b2]) (A.files++[⟨[],0⟩])::dp (q.xbs++[b2]) q.fbs A.dirs::nh (q.xbs++[b2]) (.create name A.files.length) (.func (.func 126) #[] #[aI b3,aI b0])::F) h6:=by
        have K1:=Cb (H7.mv 2);have K2:aD (cj q.xbs A.files::wm ⟨[],0⟩ b2::ro b0 (.cells #[.string name] 9 (0,0))::ro b3 (.cells #[aI b2] 114 (0,0))::cL b A q.md::bF aU q.md q.m::dp q.xbs q.fbs A.dirs::F) h6:=(((K1.mv 7).drop).mv 5)
        have K3:=vU hq.2.2.symm K2;have K4:aD (cr [iJ ((Value.func (.func 126) #[] #[aI b3,aI b0])=.func (.func 126) #[] #[aI b3,aI b0]),ro b3 (.cells #[aI ((q.xbs++[b2]).getD A.files.length 0)] 114 (0,0)),ro b0 (.cells #[.string name] 9 (0,0))]::
         cj (q.xbs++[b2]) (A.files++[⟨[],0⟩])::cL b A q.md::bF aU q.md q.m::dp q.xbs q.fbs A.dirs::F) h6:=by
         refine aD.shut ?_;refine bh.2 ⟨rfl,?_⟩;rw [hx];exact K3.ordT 6 [2,1,0,3,4,5]
        have K5:aD (nh (q.xbs++[b2]) (.create name A.files.length) (.func (.func 126) #[] #[aI b3,aI b0])::cj (q.xbs++[b2]) (A.files++[⟨[],0⟩])::cL b A q.md::bF aU q.md q.m::dp q.xbs q.fbs A.dirs::F) h6:=bg.2 ⟨(b3,b0),K4⟩;have es:dp q.xbs q.fbs A.dirs=dp (q.xbs++[b2]) q.fbs A.dirs:=tm (n:=A.files.length) (s:=A.steps) (by rw [← hq.2.2]; exact m5 _ _) W.each;rw [es] at K5;exact K5.ordT 5 [2,3,1,4,0]
       have eu:=tY W ⟨[],0⟩;have eraw:cL b A q.md=cL b { A with files:=A.files++[⟨[],0⟩] } q.md:=by unfold cL; rw [eu]
       rw [eraw] at H8;have W1:AF.FS.WF { A with files:=A.files++[⟨[],0⟩] }:=W.newFile;have hq1:mT { A with files:=A.files++[⟨[],0⟩] } ⟨q.md,q.fbs,q.xbs++[b2],q.m⟩:=⟨hq.1,hq.2.1,by simp [hq.2.2]⟩
       have hfit:AF.mM (A.files++[(⟨[],0⟩:AF.dy)]).length d.now (.create name A.files.length):=by
        rw [am];exact AF.pP W hdi hrn (by omega)
       refine (pv (A:={ A with files:=A.files++[⟨[],0⟩] }) (q:=⟨q.md,q.fbs,q.xbs++[b2],q.m⟩) (i:=i) (o:=.create name A.files.length) W1 (AF.tq W hdi hrn (by omega)) hq1 hdi hfi hfit hs H8).mono ?_;rintro v h7 ⟨rfl,H9⟩;rw [aJ,e];unfold AF.FS.step at H9 ⊢;by_cases h0:A.fuse=some 0
       · rw [al h0] at H9 ⊢;rw [al h0];refine ⟨rfl,bu (A:={ A with off:=true }) q hq ?_⟩;have es:dp (q.xbs++[b2]) q.fbs A.dirs=dp q.xbs q.fbs A.dirs:=(tm (n:=A.files.length) (s:=A.steps) (by rw [← hq.2.2]; exact m5 _ _) W.each).symm;have eraw2:cL b { ({ A with files:=A.files++[⟨[],0⟩] }:AF.FS) with off:=true } q.md=cL b { A with off:=true } q.md:=by
          have:AF.FS.used { ({ A with files:=A.files++[⟨[],0⟩] }:AF.FS) with off:=true }=AF.FS.used { A with off:=true }:=eu;unfold cL;rw [this]
         have K1:aD (cj (q.xbs++[b2]) (A.files++[⟨[],0⟩])::cL b { A with off:=true } q.md::bF aU q.md q.m::dp q.xbs q.fbs A.dirs::F) h7:=by
          rw [← eraw2,← es];exact H9.ordT 4 [2,0,1,3]
         have K2:aD (cj q.xbs A.files::cL b { A with off:=true } q.md::bF aU q.md q.m::dp q.xbs q.fbs A.dirs::F) h7:=by
          have K3:=K1.open;rw [zipWith_append hq.2.2.symm,append_assoc] at K3;have K4:=K3.shut;exact (K4.mv 1).drop
         exact K2.ordT 4 [1,2,0,3]
       · rw [ak h0] at H9 ⊢;rw [ak h0];exact ⟨rfl,bu ⟨q.md,q.fbs,q.xbs++[b2],q.m⟩ (qe hq1 i _) H9⟩
 · refine ⟨none,(e:Int),rfl,?_⟩;have e0:e≠0:=by omega
   rw [bo e0,ab];unfold AF.FS.create;rw [he];exact ⟨rfl,bu q hq Hd⟩
end
end Go.Proofs.YtmemjbiijclbdaaGreat
