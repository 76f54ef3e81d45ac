/- The file system's own block: steps,fuses,what is told of it. How a file system lies in memory. Names,and the closures that a pending operation is. The closures that a pending operation is. Directories found by their names. Maps as lists,in whatever order; directories and entries found by their names. A file found by its directory and name; steps; pending operations done. What is used,counted. A pending operation: done among the entries,kept for later. Mkdir. Create. -/
import Derived.Test.YtibdiikcigokjaaGreatPyFsA
import Derived.Test.YtibdiikcigokjaaGreatPyFsB
import Derived.Test.YtibdiikcigokjaaGreatPyFwB
import Derived.Test.YtibdiikcigokjaaGreatPyTa
namespace Go.Proofs.YtibdiikcigokjaaGreat
open Go.IntKind (wrap)
open Go.Proofs.Tryz (prog)
open List (getD_eq_getElem?_getD length_drop append_assoc take_append_drop map_append getElem?_map pairwise_map filter_cons find?_some mem_of_find?_eq_some map_cons nodup_cons find?_cons flatMap_cons getElem?_of_mem sum_cons map_congr_left zipWith eq_nil_of_length_eq_zero map_map getElem?_zipWith getElem?_set not_mem_nil sum_append map_nil zipWith_append zipWith_cons_cons)
open Go Go.RowKit
set_option linter.unusedVariables false
set_option linter.unusedSimpArgs false
def jy (b:Nat) (room used steps fuse:Int) (off:Bool) (md:Nat):aG:=
 pt b (.cells #[.int .i64 room,.int .i64 used,.int .i64 steps,.int .i64 fuse,.bool off,.map (some md)] 117 (0,0))
theorem Br {b md:Nat} {room used steps fuse:Int} {off:Bool} {F:List aG} {h:Heap} (H:aD (jy b room used steps fuse off md::F) h) (hf : -1≤fuse∧fuse≤9223372036854775807) (hs:0≤steps∧steps<9223372036854775807) :
  aC prog 123 [.pointer (some ⟨b,0,none⟩)] h fun v h'=>
   (fuse=0∧v=.int .i64 60∧aD (jy b room used steps fuse true md::F) h')∨
   (fuse≠0∧v=.int .i64 0∧aD (jy b room used (steps+1) (if fuse<0 then -1 else fuse - 1) off md::F) h'):=by
 apply GV.ap
 unfold Mu
 simp only [aV,aS]
 refine eU (v:=.int .i64 fuse) H rfl ?_
 rw [aK]
 by_cases h0:fuse=0
 · subst h0;rw [show ((0:Int)==0)=true from rfl,ab];refine cd (i:=4) (c':=#[.int .i64 room,.int .i64 used,.int .i64 steps,.int .i64 0,.bool true,.map (some md)]) H (by show 4<6; decide) rfl fun h1 H1=>?_;exact .inl ⟨rfl,by trivial,H1⟩
 · have hb:(fuse==0)=false:=by simpa using h0
   rw [hb,aa];refine eU (v:=.int .i64 fuse) H rfl ?_;rw [aK];have w:(if (-1:Int)>wrap .i64 (fuse - 1) then (-1) else wrap .i64 (fuse - 1))=(if fuse<0 then -1 else fuse - 1):=by
    rw [IntWalk.i64_in _ (by omega)];split <;> split <;> omega
   rw [w];refine cd (c':=#[.int .i64 room,.int .i64 used,.int .i64 steps,.int .i64 (if fuse<0 then -1 else fuse - 1),.bool off,.map (some md)]) H (by show 3<6; decide) rfl fun h1 H1=>?_;refine eU (v:=.int .i64 steps) H1 rfl ?_;rw [aK,IntWalk.i64_in (steps+1) (by omega)];refine cd (c':=#[.int .i64 room,.int .i64 used,.int .i64 (steps+1),.int .i64 (if fuse<0 then -1 else fuse - 1),.bool off,.map (some md)]) H1 (by show 2<6; decide) rfl fun h2 H2=>?_;exact .inr ⟨h0,by trivial,H2⟩
open Go Go.RowKit Go.MapKept
def wr (x:AF.dB) (xb:Nat):aG:=pS fun q:Option Addr×Nat=>dh [pt xb (.cells #[.slice q.1 x.b.length q.2,.int .i64 (x.safe:Int)] 140 (0,0)),aL 5 1 q.1 x.b.length q.2 (x.b.map nv)]
def cw (xbs:List Nat) (mb:Nat) (l:AF.bH):aG:=pS fun m:List (ByteArray×Value)=>dh [bF aN mb m,mC (m.Perm (l.map fun p=>(p.1,aJ (xbs.getD p.2 0))))]
def mS (xbs:List Nat):AF.Op→Value→aG
 | .create n f,v=>pS fun q:Nat×Nat=>dh [mC (v=.func (.func 143) #[] #[aJ q.1,aJ q.2]),ro q.1 (.cells #[aJ (xbs.getD f 0)] 134 (0,0)),ro q.2 (.cells #[.string n] 9 (0,0))]
 | .rename a b,v=>pS fun q:Nat×Nat=>dh [mC (v=.func (.func 144) #[] #[aJ q.1,aJ q.2]),ro q.1 (.cells #[.string a] 9 (0,0)),ro q.2 (.cells #[.string b] 9 (0,0))]
 | .remove a,v=>pS fun q:Nat=>dh [mC (v=.func (.func 121) #[] #[aJ q]),ro q (.cells #[.string a] 9 (0,0))]
structure NC where
 nb:Nat
 bb:Nat
 a:Option Addr
 c:Nat
def uA (xbs:List Nat) (d:AF.cB) (fb:Nat):aG:=pS fun q:NC=>dh [pt fb (.cells #[.map (some q.nb),.map (some q.bb),.slice q.a d.pend.length q.c] 131 (0,0)),cw xbs q.nb d.now,cw xbs q.bb d.base,j7 (mS xbs) 132 q.a d.pend.length q.c d.pend]
def eK:Option Nat→Int
 | some n=>(n:Int)
 | none => -1
structure tp where
 md:Nat
 fbs:List Nat
 xbs:List Nat
 m:List (ByteArray×Value)
def cj (xbs:List Nat) (fs:List AF.dB):aG:=dh (zipWith wr fs xbs)
def du (xbs fbs:List Nat) (ds:List AF.cB):aG:=dh (zipWith (uA xbs) ds fbs)
def mE (A:AF.FS) (q:tp):Prop:=q.m.Perm (zipWith (fun (d:AF.cB) fb=>(d.name,aJ fb)) A.dirs q.fbs)∧q.fbs.length=A.dirs.length∧q.xbs.length=A.files.length
def cM (b:Nat) (A:AF.FS) (md:Nat):aG:=jy b (A.room:Int) (A.used:Int) (A.steps:Int) (eK A.fuse) A.off md
def MN (b:Nat) (A:AF.FS) (q:tp):aG:=dh [cM b A q.md,bF aN q.md q.m,cj q.xbs A.files,du q.xbs q.fbs A.dirs]
def cg (b:Nat) (A:AF.FS):aG:=pS fun q:tp=>dh [mC (mE A q),MN b A q]
section
variable {b:Nat} {A:AF.FS} {F:List aG} {h:Heap}
theorem dr (H:aD (cg b A::F) h):∃ q:tp,mE A q∧aD (cM b A q.md::bF aN q.md q.m::cj q.xbs A.files::du q.xbs q.fbs A.dirs::F) h:=by
 obtain ⟨q,H⟩:=bw.1 H
 obtain ⟨hq,H2⟩:=cC.1 H.open
 exact ⟨q,hq,H2.open⟩
theorem bA (q:tp) (hq:mE A q) (H:aD (cM b A q.md::bF aN q.md q.m::cj q.xbs A.files::du q.xbs q.fbs A.dirs::F) h):aD (cg b A::F) h:=by
 have H2:aD (MN b A q::F) h:=aD.shut (m:=[cM b A q.md,bF aN q.md q.m,cj q.xbs A.files,du q.xbs q.fbs A.dirs]) (l:=F) H
 have H3:aD (mC (mE A q)::MN b A q::F) h:=cC.2 ⟨hq,H2⟩
 exact bw.2 ⟨q,aD.shut (m:=[mC (mE A q),MN b A q]) (l:=F) H3⟩
end
theorem qE {F:List aG} {h:Heap} (H:aD F h):aD (dh []::F) h:=aD.shut (m:=[]) H
theorem xi {room:Nat} {h:Heap} {F:List aG} (H:aD F h) (hr:room≤1073741824) :
  aC prog 14 [.int .i64 (room:Int)] h fun v h'=>∃ b,v=.tuple #[aJ b,.int .i64 0]∧aD (cg b ⟨room,0,none,false,[],[]⟩::F) h':=by
 apply J9.ap
 unfold OJ
 rw [ae (show ¬ ((room:Int)<0) by omega),aa,ae (show ¬ ((room:Int)>1073741824) by omega),aa]
 refine aQ H fun b0 h1 H1=>aQ H1 fun b1 h2 H2=>?_
 refine ⟨b1,rfl,?_⟩
 have H3:=(nH aN (H2.mv 1)).mv 1
 refine bA ⟨b0,[],[],[]⟩ ⟨.refl _,rfl,rfl⟩ ?_
 have H4:aD (cj [] []::cM b1 ⟨room,0,none,false,[],[]⟩ b0::bF aN b0 []::F) h2:=qE H3
 have H5:aD (du [] [] []::cj [] []::cM b1 ⟨room,0,none,false,[],[]⟩ b0::bF aN b0 []::F) h2:=qE H4
 exact H5.ordT 4 [2,3,1,0]
def mD (n:Nat):Bool:=(decide (97≤n)&&decide (n≤122))||(decide (48≤n)&&decide (n≤57))||decide (n=46)
theorem vE (s:ByteArray):AF.right s=(decide (1≤s.size)&&decide (s.size≤32)&&(sb s).all mD):=by
 unfold AF.right sb nb
 rw [List.all_map]
 rfl
theorem tw {s:ByteArray} {h:Heap} (hs:s.size<4611686018427387904):aC prog 192 [.string s] h fun v h'=>v=.bool (AF.right s)∧h'=h:=by
 apply Gs.ap
 unfold L6
 have hsl:=aW s
 refine ⟨fun st h1=>h1=h∧∃ i:Nat,st=(i:Int)∧i≤s.size∧((sb s).take i).all mD=true,fun st _=>((s.size:Int) - st).toNat,⟨rfl,0,rfl,au _,by simp⟩,?_⟩
 rintro st h1 ⟨rfl,i,rfl,hi,hg⟩
 by_cases hlt:i<s.size
 · rw [af (show ((i:Int)<(s.size:Int)) by omega),ab];refine ⟨by omega,by omega,?_⟩;obtain ⟨x,hx⟩:∃ x,(sb s)[i]? = some x:=⟨_,ah (by omega)⟩
   rw [iO hx];have bad:mD x=false→AF.right s=false:=fun hb=>by
    rw [vE,Bool.and_eq_false_iff];right;rw [List.all_eq_false];exact ⟨x,ai hx,by rw [hb]; simp⟩
   have on:mD x=true→(h1=h1∧∃ j:Nat,wrap .i64 ((i:Int)+1)=(j:Int)∧j≤s.size∧((sb s).take j).all mD=true)∧((s.size:Int) - wrap .i64 ((i:Int)+1)).toNat<((s.size:Int) - (i:Int)).toNat:=fun hb=>by
    rw [aH (by omega)];refine ⟨⟨rfl,i+1,rfl,by omega,?_⟩,by omega⟩;rw [ax,hx,List.all_append,hg];simp [hb]
   by_cases h97:x<97
   · rw [af (show ((x:Int)<97) by omega),ab];by_cases h48:x<48
     · rw [af (show ((x:Int)<48) by omega),ab];by_cases h46:x=46
       · subst h46;exact on rfl
       · rw [show (((x:Int))!=46)=true by rw [bne_iff_ne]; omega,ab,bad (by simp [mD]; omega)];exact ⟨rfl,rfl⟩
     · rw [ae (show ¬ ((x:Int)<48) by omega),aa];by_cases h57:x>57
       · rw [af (show ((x:Int)>57) by omega),ab,show (((x:Int))!=46)=true by rw [bne_iff_ne]; omega,ab,bad (by simp [mD]; omega)];exact ⟨rfl,rfl⟩
       · rw [ae (show ¬ ((x:Int)>57) by omega),aa];exact on (by simp [mD]; omega)
   · rw [ae (show ¬ ((x:Int)<97) by omega),aa];by_cases h122:x>122
     · rw [af (show ((x:Int)>122) by omega),ab,ae (show ¬ ((x:Int)<48) by omega),aa,
        af (show ((x:Int)>57) by omega),ab,show (((x:Int))!=46)=true by rw [bne_iff_ne]; omega,ab,bad (by simp [mD]; omega)]
       exact ⟨rfl,rfl⟩
     · rw [ae (show ¬ ((x:Int)>122) by omega),aa];exact on (by simp [mD]; omega)
 · have e:i=s.size:=by omega
   subst e;rw [ae (by omega),aa];rw [ar (by omega)] at hg;rw [vE,hg,Bool.and_true,gd,B9];by_cases h0:s.size=0
   · have:sb s=[]:=eq_nil_of_length_eq_zero (by omega);rw [af this,h0];exact ⟨rfl,rfl⟩
   · have:¬ sb s=[]:=fun e=>h0 (by rw [← hsl,e]; rfl);rw [ae this,aA,ab,af (show 1≤s.size by omega),Bool.true_and];refine ⟨congrArg Value.bool ?_,rfl⟩;by_cases h32:s.size≤32
     · rw [af h32,af (show ((s.size:Int)≤32) by omega)]
     · rw [ae h32,ae (show ¬ ((s.size:Int)≤32) by omega)]
theorem Kn:prog.underlying 129=some (.map 9 134):=by kernel_rfl
theorem u9:prog.underlying 9=some aN.desc:=by kernel_rfl
theorem Bk {mb bx bn xb:Nat} {m:List (ByteArray×Value)} {n:ByteArray} {ex en:TypeId} {h:Heap} {F:List aG} (H:aD (bF aN mb m::F) h) (hx:h[bx]? = some (.cells #[aJ xb] ex (0,0))) (hn:h[bn]? = some (.cells #[.string n] en (0,0))) :
  aC prog 143 [.map (some mb),aJ bx,aJ bn] h fun v h'=>v=.tuple #[]∧aD (bF aN mb (ij m n (aJ xb))::F) h':=by
 apply GL (n0:=some mb) (c0:=⟨bx,0,none⟩) (c1:=⟨bn,0,none⟩)
 unfold Kb
 refine pO hn ?_
 rw [aR]
 refine pO hx ?_
 show DP (.pointer (some ⟨xb,0,none⟩)) _
 rw [bC]
 exact dY (E:=aN) (k:=n) Kn u9 H fun h' H'=>⟨rfl,H'⟩
theorem Bv {mb bn:Nat} {m:List (ByteArray×Value)} {n:ByteArray} {en:TypeId} {h:Heap} {F:List aG} (H:aD (bF aN mb m::F) h) (hn:h[bn]? = some (.cells #[.string n] en (0,0))) :
  aC prog 121 [.map (some mb),aJ bn] h fun v h'=>v=.tuple #[]∧aD (bF aN mb (iI m n)::F) h':=by
 apply GX (n0:=some mb) (c0:=⟨bn,0,none⟩)
 unfold Kf
 refine pO hn ?_
 rw [aR]
 exact kO (E:=aN) (k:=n) Kn u9 H fun h' H'=>⟨rfl,H'⟩
theorem Bj {mb ba bb:Nat} {m:List (ByteArray×Value)} {a b:ByteArray} {ea eb:TypeId} {p:Option Addr} {h:Heap} {F:List aG} (H:aD (bF aN mb m::F) h) (ha:h[ba]? = some (.cells #[.string a] ea (0,0)))
  (hb:∀ h',aD (bF aN mb (iI m a)::F) h'→h'[bb]? = some (.cells #[.string b] eb (0,0))) (hp:(me m a).getD (.pointer none)=.pointer p) :
  aC prog 144 [.map (some mb),aJ ba,aJ bb] h fun v h'=>v=.tuple #[]∧aD (bF aN mb (ij (iI m a) b (.pointer p))::F) h':=by
 apply GK (n0:=some mb) (c0:=⟨ba,0,none⟩) (c1:=⟨bb,0,none⟩)
 unfold Ka
 refine pO ha ?_
 rw [aR]
 obtain ⟨es,clock,hm,hes⟩:=fP H
 obtain ⟨f,hf,hl,_⟩:=hm.find a
 refine ⟨es,hes,f,hf,?_⟩
 rw [hl,hp,bC]
 refine pO ha ?_
 rw [aR]
 refine kO (E:=aN) (k:=a) Kn u9 H fun h1 H1=>?_
 refine pO (hb h1 H1) ?_
 rw [aR]
 exact dY (E:=aN) (k:=b) Kn u9 H1 fun h' H'=>⟨rfl,H'⟩
def ji (m:List (ByteArray×Value)) (dir:ByteArray) (ss:List ByteArray):Value:=
 if AF.right dir&&ss.all AF.right then match me m dir with
  | some v=>.tuple #[v,.int .i64 0]
  | none=>.tuple #[.pointer none,.int .i64 61]
 else .tuple #[.pointer none,.int .i64 65]
theorem pi {b md:Nat} {room used steps fuse:Int} {off:Bool} {m:List (ByteArray×Value)} {dir:ByteArray} {a:Option Addr} {l c:Nat} {ss:List ByteArray} {h:Heap} {F:List aG}
  (H:aD (jy b room used steps fuse off md::bF aN md m::F) h) (hp:∀ k v,me m k=some v→∃ fb,v=aJ fb) (hr:dw h a (ss.map Value.string)) (hl:ss.length=l) (hlb:l<1000)
  (hd:dir.size<4611686018427387904) (hss:∀ s∈ss,s.size<4611686018427387904) :
  aC prog 145 [.pointer (some ⟨b,0,none⟩),.string dir,.slice a l c] h fun v h'=>v=ji m dir ss∧h'=h:=by
 apply GJ.ap
 unfold Ml
 refine (tw hd).mono ?_
 rintro v h1 ⟨rfl,rfl⟩
 rw [bE]
 cases hrd:AF.right dir with
 | false=>exact ⟨by unfold ji; rw [hrd]; rfl,rfl⟩
 | true=>
   rw [az,aa];refine ⟨fun st h2=>h2=h1∧∃ i:Nat,st=(i:Int)∧i≤l∧(ss.take i).all AF.right=true,fun st _=>((l:Int) - st).toNat,⟨rfl,0,rfl,au _,by simp⟩,?_⟩;rintro st h2 ⟨rfl,i,rfl,hi,hg⟩;by_cases hlt:i<l
   · rw [af (show ((i:Int)<(l:Int)) by omega),ab];obtain ⟨s,hs⟩:∃ s,ss[i]? = some s:=⟨_,ah (by omega)⟩
     refine cm (v:=.string s) hr (by rw [an]; exact hl) (by rw [getElem?_map,hs]; rfl) fun b hb hc=>⟨_,hc,?_⟩
     show DS (.string s) _;rw [aR];refine (tw (hss s (ai hs))).mono ?_;rintro v h3 ⟨rfl,rfl⟩;rw [bE]
     cases hrs:AF.right s with
     | false=>
       refine ⟨?_,rfl⟩;have:ss.all AF.right=false:=by
        rw [List.all_eq_false];exact ⟨s,ai hs,by rw [hrs]; simp⟩
       unfold ji;rw [hrd,this]
       rfl
     | true=>
       rw [az,aa,aH (by omega)];refine ⟨⟨rfl,i+1,rfl,by omega,?_⟩,by show ((l:Int) - ((i+1:Nat):Int)).toNat<((l:Int) - (i:Int)).toNat; omega⟩;rw [ax,hs,List.all_append,hg];simp [hrs]
   · have e:i=l:=by omega
     subst e;rw [ae (by omega),aa];rw [ar (by omega)] at hg;simp only [aV];refine eU (v:=.map (some md)) H rfl ?_;rw [bS];obtain ⟨es,clock,hm,hes⟩:=fP (H.mv 1);obtain ⟨f,hf,hlk,_⟩:=hm.find dir;refine ⟨es,hes,f,hf,?_⟩;rw [hlk]
     cases hk:me m dir with
     | none=>
       show DP (.pointer none) _;rw [bC];exact ⟨by unfold ji; rw [hrd,hg,hk]; rfl,by trivial⟩
     | some v=>
       obtain ⟨fb,rfl⟩:=hp dir v hk;show DP (.pointer (some ⟨fb,0,none⟩)) _;rw [bC];exact ⟨by unfold ji; rw [hrd,hg,hk]; rfl,by trivial⟩
def Cd (off:Bool) (m:List (ByteArray×Value)) (dir:ByteArray) (ss:List ByteArray):Value:=if off then .tuple #[.pointer none,.int .i64 60] else ji m dir ss
theorem wj {m:List (ByteArray×Value)} (hp:∀ k v,me m k=some v→∃ fb,v=aJ fb) (dir:ByteArray) (ss:List ByteArray):∃ (p:Option Addr) (e:Int),ji m dir ss=.tuple #[.pointer p,.int .i64 e]:=by
 unfold ji
 split
 · cases hk:me m dir with
   | none=>exact ⟨none,61,rfl⟩
   | some v=>
     obtain ⟨fb,rfl⟩:=hp dir v hk;exact ⟨some ⟨fb,0,none⟩,0,rfl⟩
 · exact ⟨none,65,rfl⟩
theorem Bs {b md:Nat} {room used steps fuse:Int} {off:Bool} {m:List (ByteArray×Value)} {dir:ByteArray} {a:Option Addr} {l c:Nat} {ss:List ByteArray} {h:Heap} {F:List aG}
  (H:aD (jy b room used steps fuse off md::bF aN md m::F) h) (hp:∀ k v,me m k=some v→∃ fb,v=aJ fb) (hr:dw h a (ss.map Value.string)) (hl:ss.length=l) (hlb:l<1000)
  (hd:dir.size<4611686018427387904) (hss:∀ s∈ss,s.size<4611686018427387904) :
  aC prog 122 [.pointer (some ⟨b,0,none⟩),.string dir,.slice a l c] h fun v h'=>v=Cd off m dir ss∧h'=h:=by
 apply GW.ap
 unfold Mv
 simp only [Option.isNone_some,aa,aV]
 refine eU (v:=.bool off) H rfl ?_
 rw [bE]
 cases off with
 | true=>exact ⟨rfl,by trivial⟩
 | false=>
   rw [aa];refine (pi H hp hr hl hlb hd hss).mono ?_;rintro v h1 ⟨rfl,rfl⟩;obtain ⟨p,e,hf⟩:=wj hp dir ss;exact ⟨p,e,hf,by rw [← hf]; rfl,by trivial⟩
section
variable {κ:Type} [DecidableEq κ] {m n:List (κ×Value)}
theorem E9 {k:κ} {v:Value} (h:me m k=some v):(k,v)∈m:=by
 unfold me at h
 cases hf:m.find? (fun p=>decide (p.1=k)) with
 | none=>rw [hf] at h; cases h
 | some p=>
   rw [hf] at h;simp only [Option.map_some,Option.some.injEq] at h;have h1:=find?_some hf;simp only [decide_eq_true_eq] at h1;have h2:=mem_of_find?_eq_some hf;rw [← h,← h1];exact h2
theorem uq (hu:(m.map (·.1)).Nodup) {k:κ} {v:Value} (h:(k,v)∈m):me m k=some v:=by
 induction m with
 | nil=>cases h
 | cons q m ih=>
   simp only [map_cons,nodup_cons] at hu;unfold me;rw [find?_cons]
   rcases ay.1 h with rfl | h
   · simp
   · have hne:q.1≠k:=fun e=>hu.1 (by rw [e]; exact List.mem_map.2 ⟨(k,v),h,rfl⟩);simp only [hne,decide_false];exact ih hu.2 h
theorem vW {k:κ} (h:∀ p∈m,p.1≠k):me m k=none:=by
 unfold me
 rw [List.find?_eq_none.2 fun p hp=>by simpa using h p hp]
 rfl
theorem oU {k:κ} (h:∀ p∈m,p.1≠k):iI m k=m:=List.filter_eq_self.2 fun p hp=>by simpa using h p hp
theorem rK {k:κ} {v:Value} (hu:(m.map (·.1)).Nodup):(ij m k v).Perm ((k,v)::iI m k):=by
 unfold ij
 split
 · rename_i ha
   induction m with
   | nil=>simp at ha
   | cons q m ih=>
     simp only [map_cons,nodup_cons] at hu;by_cases hq:q.1=k
     · have hno:∀ p∈m,p.1≠k:=fun p hp e=>hu.1 (by rw [hq,← e]; exact List.mem_map.2 ⟨p,hp,rfl⟩);have h1:m.map (fun p=>if p.1=k then (k,v) else p)=m:=by
        conv=>rhs; rw [← List.map_id m]
        exact map_congr_left fun p hp=>by simp [hno p hp]
       have h2:iI (q::m) k=m:=by
        unfold iI;rw [filter_cons,ak (by simp [hq])];exact oU hno
       rw [map_cons,al hq,h1,h2]
     · have h2:iI (q::m) k=q::iI m k:=by
        unfold iI;rw [filter_cons,al (by simp [hq])]
       have ha2:m.any (fun p=>decide (p.1=k))=true:=by simpa [hq] using ha
       rw [map_cons,ak hq,h2];exact ((ih hu.2 ha2).cons q).trans (.swap _ _ _)
 · rename_i ha;rw [oU fun p hp e=>ha (List.any_eq_true.2 ⟨p,hp,by simpa using e⟩)];exact List.perm_append_comm
theorem Aw (h:m.Perm n) (k:κ):(iI m k).Perm (iI n k):=h.filter _
end
def kj (xbs:List Nat) (p:ByteArray×Nat):ByteArray×Value:=(p.1,aJ (xbs.getD p.2 0))
section
variable {xbs:List Nat} {m:List (ByteArray×Value)} {l:AF.bH}
theorem qX:(l.map (kj xbs)).map (·.1)=l.map (·.1):=by rw [map_map]; rfl
theorem sY (hp:m.Perm (l.map (kj xbs))) (hu:AF.Up l):(m.map (·.1)).Nodup:=by
 rw [(hp.map (·.1)).nodup_iff,qX]
 exact hu.nodup
theorem yg (hp:m.Perm (l.map (kj xbs))) (hu:AF.Up l) (n:ByteArray):me m n=(AF.of l n).map fun x=>aJ (xbs.getD x 0):=by
 cases ho:AF.of l n with
 | none=>
   refine vW fun p hm=>?_;obtain ⟨p',hp',rfl⟩:=List.mem_map.1 (hp.mem_iff.1 hm);exact AF.E2 ho p' hp'
 | some x=>exact uq (sY hp hu) (hp.mem_iff.2 (List.mem_map.2 ⟨(n,x),AF.jL ho,rfl⟩))
theorem uy (hp:m.Perm (l.map (kj xbs))) (n:ByteArray):(iI m n).Perm ((AF.drop l n).map (kj xbs)):=by
 have h:=Aw hp n
 have e:iI (l.map (kj xbs)) n=(AF.drop l n).map (kj xbs):=by
  unfold iI AF.drop;rw [List.filter_map]
  rfl
 rwa [e] at h
theorem ux (hp:m.Perm (l.map (kj xbs))) (hu:AF.Up l) (n:ByteArray) (x:Nat):(ij m n (aJ (xbs.getD x 0))).Perm ((AF.ins n x l).map (kj xbs)):=by
 refine (rK (sY hp hu)).trans ?_
 refine ((uy hp n).cons _).trans ?_
 exact ((AF.jh (f:=x) hu).map (kj xbs)).symm
end
section
variable {A:AF.FS} {q:tp}
theorem km (hq:mE A q) {k:ByteArray} {v:Value}:(k,v)∈q.m↔∃ (i:Nat) (d:AF.cB) (fb:Nat),A.dirs[i]? = some d∧q.fbs[i]? = some fb∧k=d.name∧v=aJ fb:=by
 rw [hq.1.mem_iff]
 constructor
 · intro h;obtain ⟨i,hi⟩:=getElem?_of_mem h;rw [getElem?_zipWith] at hi
   cases h1:A.dirs[i]? with
   | none=>rw [h1] at hi; simp at hi
   | some d=>
     cases h2:q.fbs[i]? with
     | none=>rw [h1,h2] at hi; simp at hi
     | some fb=>
       rw [h1,h2] at hi;simp only [Option.some.injEq,Prod.mk.injEq] at hi;exact ⟨i,d,fb,h1,h2,hi.1.symm,hi.2.symm⟩
 · rintro ⟨i,d,fb,h1,h2,rfl,rfl⟩;refine ai (i:=i) ?_;rw [getElem?_zipWith,h1,h2]
theorem kn (hq:mE A q):(q.m.map (·.1)).Perm (A.dirs.map (·.name)):=by
 refine (hq.1.map _).trans (.of_eq ?_)
 apply List.ext_getElem?
 intro i
 rw [getElem?_map,getElem?_map,getElem?_zipWith]
 cases h1:A.dirs[i]? with
 | none=>simp
 | some d=>
   have:i<q.fbs.length:=by rw [hq.2.1]; exact (aj.1 h1).1
   rw [ah this]
   rfl
theorem pz (W:A.WF):(A.dirs.map (·.name)).Nodup:=by
 rw [List.Nodup,pairwise_map]
 refine List.Pairwise.imp ?_ W.up
 intro a b h e
 rw [← e] at h
 exact AF.bp a.name h
theorem m4 (W:A.WF) (hq:mE A q):(q.m.map (·.1)).Nodup:=(kn hq).nodup_iff.2 (pz W)
theorem CJ (hq:mE A q) {i:Nat} {d:AF.cB} (hd:A.dirs[i]? = some d):∃ fb,q.fbs[i]? = some fb:=
 ⟨_,ah (by rw [hq.2.1]; exact (aj.1 hd).1)⟩
theorem yD (hq:mE A q) {x:Nat} (hx:x<A.files.length):∃ y xb,A.files[x]? = some y∧q.xbs[x]? = some xb∧q.xbs.getD x 0=xb:=
 ⟨_,_,ah hx,ah (by rw [hq.2.2]; exact hx),by rw [getD_eq_getElem?_getD,ah (by rw [hq.2.2]; exact hx)]; rfl⟩
theorem q4 (hq:mE A q) (k:ByteArray) (v:Value) (hk:me q.m k=some v):∃ fb,v=aJ fb:=by
 obtain ⟨i,d,fb,_,_,_,h⟩:=(km hq).1 (E9 hk)
 exact ⟨fb,h⟩
theorem Fm (W:A.WF) (hq:mE A q) (dir:ByteArray):(A.at dir=none∧me q.m dir=none)∨∃ (i:Nat) (d:AF.cB) (fb:Nat),A.at dir=some i∧A.dirs[i]? = some d∧d.name=dir∧q.fbs[i]? = some fb∧me q.m dir=some (aJ fb):=by
 cases ha:A.at dir with
 | none=>
   refine .inl ⟨rfl,vW fun p hp e=>?_⟩;obtain ⟨i,d,fb,h1,_,h2,_⟩:=(km hq (k:=p.1) (v:=p.2)).1 hp;exact AF.p8 ha d (ai h1) (by rw [← h2,e])
 | some i=>
   obtain ⟨d,hd,hn⟩:=AF.p7 ha;obtain ⟨fb,hf⟩:=CJ hq hd;exact .inr ⟨i,d,fb,rfl,hd,hn,hf,uq (m4 W hq) ((km hq).2 ⟨i,d,fb,hd,hf,hn.symm,rfl⟩)⟩
theorem qS (W:A.WF) (hq:mE A q) (dir:ByteArray) (ss:List ByteArray):(∃ (i:Nat) (d:AF.cB) (fb:Nat),A.named dir ss=.ok i∧A.dirs[i]? = some d∧q.fbs[i]? = some fb∧ji q.m dir ss=.tuple #[aJ fb,.int .i64 0])∨
  ∃ e:Nat,A.named dir ss=.error e∧(e=61∨e=65)∧ji q.m dir ss=.tuple #[.pointer none,.int .i64 (e:Int)]:=by
 unfold ji AF.FS.named
 split
 · rcases Fm W hq dir with ⟨h1,h2⟩ | ⟨i,d,fb,h1,h2,h3,h4,h5⟩
   · rw [h1,h2]; exact .inr ⟨61,rfl,.inl rfl,rfl⟩
   · rw [h1,h5]; exact .inl ⟨i,d,fb,rfl,h2,h4,rfl⟩
 · exact .inr ⟨65,rfl,.inr rfl,rfl⟩
end
abbrev Am (b:Nat) (A:AF.FS) (q:tp) (F:List aG):List aG:=cM b A q.md::bF aN q.md q.m::cj q.xbs A.files::du q.xbs q.fbs A.dirs::F
section
variable {b:Nat} {A:AF.FS} {q:tp} {F:List aG} {h:Heap}
theorem g5 {dir:ByteArray} {a:Option Addr} {l c:Nat} {ss:List ByteArray} (W:A.WF) (hq:mE A q) (H:aD (cM b A q.md::bF aN q.md q.m::F) h) (hr:dw h a (ss.map Value.string)) (hl:ss.length=l) (hlb:l<1000)
  (hd:dir.size<4611686018427387904) (hss:∀ s∈ss,s.size<4611686018427387904) :
  aC prog 122 [aJ b,.string dir,.slice a l c] h fun v h'=>h'=h∧((∃ (i:Nat) (d:AF.cB) (fb:Nat),A.ready dir ss=.ok i∧A.dirs[i]? = some d∧q.fbs[i]? = some fb∧v=.tuple #[aJ fb,.int .i64 0])∨
   ∃ e:Nat,A.ready dir ss=.error e∧(e=60∨e=61∨e=65)∧v=.tuple #[.pointer none,.int .i64 (e:Int)]):=by
 refine (Bs H (q4 hq) hr hl hlb hd hss).mono ?_
 rintro v h1 ⟨rfl,rfl⟩
 refine ⟨rfl,?_⟩
 unfold Cd AF.FS.ready
 cases A.off with
 | true=>exact .inr ⟨60,rfl,.inl rfl,rfl⟩
 | false=>
   rcases qS W hq dir ss with ⟨i,d,fb,h1,h2,h3,h4⟩ | ⟨e,h1,h2,h3⟩
   · exact .inl ⟨i,d,fb,h1,h2,h3,h4⟩
   · exact .inr ⟨e,h1,.inr h2,h3⟩
def m7 (xbs fbs:List Nat) (ds:List AF.cB) (i:Nat):aG:=rH (uA xbs) ds fbs i
def mt (nb bb:Nat) (a:Option Addr) (l c:Nat):Obj:=.cells #[.map (some nb),.map (some bb),.slice a l c] 131 (0,0)
theorem jE {xbs fbs:List Nat} {ds:List AF.cB} {i:Nat} {d:AF.cB} {fb:Nat} (H:aD (du xbs fbs ds::F) h) (hd:ds[i]? = some d) (hf:fbs[i]? = some fb) :
  ∃ (nb bb:Nat) (a:Option Addr) (c:Nat),aD (pt fb (mt nb bb a d.pend.length c)::cw xbs nb d.now::cw xbs bb d.base::j7 (mS xbs) 132 a d.pend.length c d.pend::m7 xbs fbs ds i::F) h:=by
 obtain ⟨r,H2⟩:=bw.1 (iw H hd hf)
 exact ⟨r.nb,r.bb,r.a,r.c,H2.open⟩
theorem m6 {xbs fbs:List Nat} {ds:List AF.cB} {i:Nat} {d d':AF.cB} {fb nb bb:Nat} {a:Option Addr} {c:Nat} (hd:ds[i]? = some d') (hf:fbs[i]? = some fb)
  (H:aD (pt fb (mt nb bb a d.pend.length c)::cw xbs nb d.now::cw xbs bb d.base::j7 (mS xbs) 132 a d.pend.length c d.pend::m7 xbs fbs ds i::F) h):aD (du xbs fbs (ds.set i d)::F) h:=by
 refine ur hf (aj.1 hd).1 (bw.2 ⟨⟨nb,bb,a,c⟩,?_⟩)
 exact aD.shut (m:=[pt fb (mt nb bb a d.pend.length c),cw xbs nb d.now,cw xbs bb d.base,j7 (mS xbs) 132 a d.pend.length c d.pend]) H
theorem dz {α:Type} {l:List α} {i:Nat} {x:α} (g:α→α) (hx:l[i]? = some x):l.modify i g=l.set i (g x):=by
 apply List.ext_getElem?
 intro j
 rw [hZ,getElem?_set]
 have hl:=(aj.1 hx).1
 by_cases h:i=j
 · subst h;rw [hx,al rfl,al hl];simp
 · simp [h]
theorem fj {xbs:List Nat} {mb:Nat} {l:AF.bH} (H:aD (cw xbs mb l::F) h):∃ m:List (ByteArray×Value),m.Perm (l.map (kj xbs))∧aD (bF aN mb m::F) h:=by
 obtain ⟨m,H2⟩:=bw.1 H
 have H3:=H2.open
 obtain ⟨hp,H4⟩:=cC.1 (H3.mv 1)
 exact ⟨m,hp,H4⟩
theorem dy {xbs:List Nat} {mb:Nat} {l:AF.bH} {m:List (ByteArray×Value)} (hp:m.Perm (l.map (kj xbs))) (H:aD (bF aN mb m::F) h):aD (cw xbs mb l::F) h:=by
 refine bw.2 ⟨m,aD.shut (m:=[bF aN mb m,mC (m.Perm (l.map (kj xbs)))]) ?_⟩
 have H2:aD (mC (m.Perm (l.map (kj xbs)))::bF aN mb m::F) h:=cC.2 ⟨hp,H⟩
 exact H2.mv 1
theorem lM {xbs fbs:List Nat} {ds:List AF.cB} {i:Nat} {d:AF.cB} {fb:Nat} (H:aD (du xbs fbs ds::F) h) (hd:ds[i]? = some d) (hf:fbs[i]? = some fb) (hu:AF.Up d.now) :
  ∃ (nb bb:Nat) (a:Option Addr) (c:Nat) (es:Array MapEntry),h[fb]? = some (mt nb bb a d.pend.length c)∧dN h (some nb) es∧es.size=d.now.length∧
    ∀ n:ByteArray,∃ f,Instr.findNow .string (.string n) es.toList 0=some f∧f.map (·.2)=(AF.of d.now n).map fun x=>aJ (xbs.getD x 0):=by
 obtain ⟨nb,bb,a,c,H2⟩:=jE H hd hf
 obtain ⟨m,hp,H3⟩:=fj (H2.mv 1)
 obtain ⟨es,clock,hm,hes⟩:=fP H3
 refine ⟨nb,bb,a,c,es,H2.get,hes,?_,fun n=>?_⟩
 · rw [hm.size,hp.length_eq,an]
 · obtain ⟨f,hf,hl,_⟩:=hm.find n;exact ⟨f,hf,by rw [hl,yg hp hu]⟩
end
section
variable {b:Nat} {A:AF.FS} {q:tp} {F:List aG} {h:Heap}
theorem lb {xs:List Nat} {o:Option Nat} {f:Option (Nat×Value)} {K:Option Addr→Prop} (hl:f.map (·.2)=o.map fun x=>aJ (xs.getD x 0)) (hK:K (o.map fun x=>⟨xs.getD x 0,0,none⟩)) :
  DP ((Option.map (fun x=>x.2) f).getD (.pointer none)) K:=by
 rw [hl]
 cases o with
 | none=>exact ⟨none,rfl,hK⟩
 | some x=>exact ⟨_,rfl,hK⟩
theorem mp {dir name:ByteArray} (W:A.WF) (hq:mE A q) (H:aD (Am b A q F) h) (hd:dir.size<4611686018427387904) (hn:name.size<4611686018427387904) :
  aC prog 119 [aJ b,.string dir,.string name] h fun v h'=>aD (Am b A q F) h'∧
   ((∃ (i x:Nat) (d:AF.cB) (y:AF.dB) (fb xb:Nat),A.entry dir name=.ok (i,x)∧A.dirs[i]? = some d∧q.fbs[i]? = some fb∧A.files[x]? = some y∧q.xbs[x]? = some xb∧v=.tuple #[aJ fb,aJ xb,.int .i64 0])∨
    ∃ e:Nat,A.entry dir name=.error e∧e≠0∧v=.tuple #[.pointer none,.pointer none,.int .i64 (e:Int)]):=by
 apply GZ.ap
 unfold Mx
 refine aQ H fun b0 h1 H1=>?_
 have hr:dw h1 (some ⟨b0,0,none⟩) ([name].map Value.string):=by
  intro j v hv;rw [dR H1.get]
  cases j with
  | zero=>exact hv
  | succ j=>simp at hv
 refine (g5 (ss:=[name]) W hq (H1.drop) hr rfl (show 1<1000 by omega) hd (fun s hs=>by simp at hs; rw [hs]; exact hn)).mono ?_
 rintro v h2 ⟨rfl,hcase⟩
 have H2:=H1.drop
 rcases hcase with ⟨i,d,fb,he,hdi,hfi,rfl⟩ | ⟨e,he,hne,rfl⟩
 · have w:=W.each d (ai hdi);obtain ⟨nb,bb,a,c,es,hfb,hes,hsz,hlk⟩:=lM (H2.mv 3) hdi hfi w.ok.up;obtain ⟨f,hf,hl⟩:=hlk name;refine ⟨some ⟨fb,0,none⟩,0,rfl,?_⟩;rw [show ((0:Int)==0)=true from rfl,ab];simp only [aV,aS];have rd:∀ K:Value→Prop,K (.map (some nb))→Ld h2 ⟨fb,0,none⟩ K:=fun K hK=>⟨_,by rw [bD hfb]; rfl,hK⟩
   refine rd _ ?_;rw [bS];refine ⟨es,hes,f,hf,lb hl ?_⟩
   cases ho:AF.of d.now name with
   | none=>
     refine ⟨H2,.inr ⟨62,?_,by omega,rfl⟩⟩;unfold AF.FS.entry;rw [he];simp only [AF.jp hdi,ho]
   | some x=>
     show bif (false:Bool) then _ else _
     rw [aa,show ((0:Int)!=0)=false from rfl,aa];refine rd _ ?_;rw [bS];refine ⟨es,hes,f,hf,lb hl ?_⟩;rw [ho];have hx:=(w.ok.each _ (AF.jL ho)).1;obtain ⟨y,xb,h1,h3,h4⟩:=yD hq hx;refine ⟨H2,.inl ⟨i,x,d,y,fb,xb,?_,hdi,hfi,h1,h3,?_⟩⟩
     · unfold AF.FS.entry;rw [he];simp only [AF.jp hdi,ho]
     · show Value.tuple #[aJ fb,aJ (q.xbs.getD x 0),.int .i64 0]=_;rw [h4]
 · refine ⟨none,(e:Int),rfl,?_⟩;have e0:((e:Int)==0)=false:=by
    rw [beq_eq_false_iff_ne]
    rcases hne with rfl | rfl | rfl <;> decide
   have e1:((e:Int)!=0)=true:=by rw [bne,e0]; rfl
   rw [e0,aa,e1,ab];refine ⟨H2,.inr ⟨e,?_,by omega,rfl⟩⟩;unfold AF.FS.entry;rw [he]
theorem yb (W:A.WF) : -1≤eK A.fuse∧eK A.fuse≤9223372036854775807:=by
 unfold eK
 cases hf:A.fuse with
 | none=>exact ⟨by decide,by decide⟩
 | some n=>
   have:=W.fuse n hf;simp only;omega
theorem jY {md:Nat} (W:A.WF) (hs:A.steps<1099511627776) (H:aD (cM b A md::F) h):aC prog 123 [aJ b] h fun v h'=>
  (A.fuse=some 0∧v=.int .i64 60∧aD (cM b { A with off:=true } md::F) h')∨(A.fuse≠some 0∧v=.int .i64 0∧aD (cM b A.stepOn md::F) h'):=by
 refine (Br H (yb W) ⟨by omega,by omega⟩).mono ?_
 rintro v h1 (⟨h0,rfl,H1⟩ | ⟨h0,rfl,H1⟩)
 · refine .inl ⟨?_,rfl,?_⟩
   · unfold eK at h0
     cases hf:A.fuse with
     | none=>rw [hf] at h0; cases h0
     | some n=>rw [hf] at h0; simp only at h0; congr; omega
   · exact H1
 · refine .inr ⟨?_,rfl,?_⟩
   · intro hf;rw [hf] at h0;exact h0 rfl
   · have e1:(if eK A.fuse<0 then -1 else eK A.fuse - 1)=eK (A.fuse.map (· - 1)):=by
      cases hf:A.fuse with
      | none=>rfl
      | some n=>
        rw [hf] at h0;have h2:(n:Int)≠0:=h0;rw [ak (show ¬ eK (some n)<0 from by show ¬ ((n:Int)<0); omega)];show (n:Int) - 1=((n - 1:Nat):Int)
        omega
     rw [e1] at H1;exact H1
end
theorem Cm (xbs:List Nat) (o:AF.Op) (v:Value):jo (mS xbs o v):=by
 cases o with
 | create n f=>
   refine jo.pS fun q=>jo.many fun A hA=>?_;simp only [ay,not_mem_nil,or_false] at hA
   rcases hA with rfl | rfl | rfl
   · exact jo.mC _
   · exact nz _ _
   · exact nz _ _
 | rename a b=>
   refine jo.pS fun q=>jo.many fun A hA=>?_;simp only [ay,not_mem_nil,or_false] at hA
   rcases hA with rfl | rfl | rfl
   · exact jo.mC _
   · exact nz _ _
   · exact nz _ _
 | remove a=>
   refine jo.pS fun q=>jo.many fun A hA=>?_;simp only [ay,not_mem_nil,or_false] at hA
   rcases hA with rfl | rfl
   · exact jo.mC _
   · exact nz _ _
theorem yO {xbs:List Nat} {mb n:Nat} {l:AF.bH} {o:AF.Op} {v:Value} {F:List aG} {h:Heap} (H:aD (cw xbs mb l::mS xbs o v::F) h) (hk:AF.Ok n l) (hf:AF.my n l o) :
  cK prog v [.map (some mb)] h fun r h'=>r=.tuple #[]∧aD (cw xbs mb (AF.does l o)::mS xbs o v::F) h':=by
 have Hd:=((H.mv 1).dup (Cm xbs o v)).mv 2
 obtain ⟨m,hp,H1⟩:=fj Hd
 cases o with
 | create k x=>
   obtain ⟨⟨b1,b2⟩,H2⟩:=bw.1 (H1.mv 1);obtain ⟨hv,H3⟩:=cC.1 H2.open;subst hv;have H4:aD (bF aN mb m::ro b1 (.cells #[aJ (xbs.getD x 0)] 134 (0,0))::ro b2 (.cells #[.string k] 9 (0,0))::_) h:=H3.mv 2;refine dK ?_;refine aC.mono (Bk (bx:=b1) (bn:=b2) H4 (H4.mv 1).getRo (H4.mv 2).getRo) ?_;rintro r h' ⟨rfl,H5⟩;exact ⟨rfl,dy (ux hp hk.up k x) ((H5.mv 1).drop.mv 1).drop⟩
 | remove k=>
   obtain ⟨b2,H2⟩:=bw.1 (H1.mv 1);obtain ⟨hv,H3⟩:=cC.1 H2.open;subst hv;have H4:aD (bF aN mb m::ro b2 (.cells #[.string k] 9 (0,0))::_) h:=H3.mv 1;refine dK ?_;refine aC.mono (Bv (bn:=b2) H4 (H4.mv 1).getRo) ?_;rintro r h' ⟨rfl,H5⟩;exact ⟨rfl,dy (uy hp k) (H5.mv 1).drop⟩
 | rename k k2=>
   obtain ⟨⟨b1,b2⟩,H2⟩:=bw.1 (H1.mv 1);obtain ⟨hv,H3⟩:=cC.1 H2.open;subst hv;have H4:aD (bF aN mb m::ro b1 (.cells #[.string k] 9 (0,0))::ro b2 (.cells #[.string k2] 9 (0,0))::_) h:=H3.mv 2;obtain ⟨x,hx⟩:=Option.isSome_iff_exists.1 hf.2.2;refine dK ?_;refine aC.mono (Bj (ba:=b1) (bb:=b2) (a:=k) (b:=k2) (p:=some ⟨xbs.getD x 0,0,none⟩) H4 (H4.mv 1).getRo (fun h' H'=>(H'.mv 2).getRo) (by rw [yg hp hk.up,hx]; rfl)) ?_;rintro r h' ⟨rfl,H5⟩;have hp2:=ux (uy hp k) (hk.up.drop k) k2 x;refine ⟨rfl,?_⟩;have e:AF.does l (.rename k k2)=AF.ins k2 x (AF.drop l k):=by
    simp only [AF.does,hx]
   rw [e];exact dy hp2 ((H5.mv 1).drop.mv 1).drop
theorem dZ.pairs {es:Array MapEntry} {clock:Nat} {m:List (ByteArray×Value)} (hm:dZ aN es clock m):es.toList.map (fun e:MapEntry=>(kS e.key,e.val))=m:=by
 have:=congrArg (List.map fun p:Value×Value=>(kS p.1,p.2)) hm.2
 simpa [map_map,Function.comp_def,aN,kS] using this
theorem yS {P:Program} {ty:TypeId} {p mb:Nat} {m:List (ByteArray×Value)} {es:Array MapEntry} {clock:Nat} (hm:dZ aN es clock m) {G:List (ByteArray×Value)→List aG} {End:Heap→Prop} {Body:(Unit→Heap→Prop)→Value→Heap→Prop} {h:Heap}
  (start:aD (pt p (.mapIter (some mb) clock #[] clock)::pt mb (.map es clock)::G []) h)
  (fin:∀ done h',done.Perm m→aD (pt mb (.map es clock)::G done) h'→End h')
  (body:∀ (o:Obj) done k v h' (again:Unit→Heap→Prop),(∃ rest,(done++(k,v)::rest).Perm m)→aD (pt p o::pt mb (.map es clock)::G done) h'→
   (∀ h'',aD (pt p o::pt mb (.map es clock)::G (done++[(k,v)])) h''→again () h'')→Body again (.tuple #[.string k,v]) h') :
  aU (fun again (_:Unit) h3=>bi P (Instr.next (.pointer (some ⟨p,0,none⟩)) false ty) h3 fun r2 h4=>(r2=.tuple #[.bool false]∧End h4)∨
   (∃ k0 x1:Value,r2=.tuple #[.bool true,k0,x1]∧bi P (Instr.entry (.pointer (some ⟨p,0,none⟩))) h4 fun r3 h5=>Body again r3 h5)) () h:=by
 have hn:=hm.1.2.1
 refine ⟨fun _ h2=>∃ seen done c0,aD (pt p (.mapIter (some mb) clock seen c0)::pt mb (.map es clock)::G (done.map fun e:MapEntry=>(kS e.key,e.val))) h2∧cA es seen done∧clock≤c0,
  fun _ h2=>bU ⟨p,0,none⟩ h2,⟨#[],[],clock,start,cA.start es,av _⟩,?_⟩
 rintro _ h2 ⟨seen,done,c0,H2,hw,hc⟩
 have hmb:=(H2.mv 1).get
 refine kb H2 hmb hm.1.1 hc ?_ ?_
 · intro h0;refine .inl ⟨rfl,fin (done.map fun e:MapEntry=>(kS e.key,e.val)) h2 ?_ H2.drop⟩;rw [← hm.pairs];exact (hw.fin h0).map _
 · intro e he h3 H3;have hmb3:=(H3.mv 1).get;have hee:=cA.mem he;refine .inr ⟨_,_,rfl,?_⟩;refine i4 H3 hmb3 hee hn ?_;rw [hm.strKey hee];refine body (.mapIter (some mb) clock (seen.push e.born) clock) (done.map fun e:MapEntry=>(kS e.key,e.val)) (kS e.key) e.val h3 _ ?_ H3 fun h4 H4=>⟨⟨seen.push e.born,done++[e],clock,?_,hw.step hn he,av _⟩,?_⟩
   · refine ⟨(leftOf es (seen.push e.born)).toList.map fun e:MapEntry=>(kS e.key,e.val),?_⟩;have hp:=(hw.step hn he).perm.map fun e:MapEntry=>(kS e.key,e.val)
     rw [hm.pairs] at hp;simpa using hp
   · rw [map_append];exact H4
   · have a1:bU ⟨p,0,none⟩ h4=(leftOf es (seen.push e.born)).size:=by
      unfold bU;simp only [H4.get,(H4.mv 1).get]
     have a2:bU ⟨p,0,none⟩ h2=(leftOf es seen).size:=by
      unfold bU;simp only [H2.get,hmb]
     show bU ⟨p,0,none⟩ h4<bU ⟨p,0,none⟩ h2;rw [a1,a2];exact cA.less hn he
theorem jg {l m:List Nat} (h:l.Perm m):l.sum=m.sum:=by
 induction h with
 | nil=>rfl
 | cons x _ ih=>simp [ih]
 | swap x y l=>simp; omega
 | trans _ _ h1 h2=>exact h1.trans h2
theorem po {α:Type} (f:α→List Nat) (g:Nat→Nat):∀ l:List α,((l.flatMap f).map g).sum=(l.map fun d=>((f d).map g).sum).sum
 | []=>rfl
 | a::l=>by rw [flatMap_cons,map_append,sum_append,po f g l,map_cons,sum_cons]
def nS (A:AF.FS) (l:AF.bH) (k:ByteArray):Nat:=match AF.of l k with
 | some x=>(A.X x).b.length
 | none=>0
def xz (A:AF.FS) (l:AF.bH):Nat:=(l.map fun p=>(A.X p.2).b.length).sum
def mM (A:AF.FS) (k:ByteArray):Nat:=match A.at k with
 | some i=>xz A (A.D i).now
 | none=>0
theorem z7 {α:Type} {l:List α} (hn:l.Nodup) {i j:Nat} {x:α} (h1:l[i]? = some x) (h2:l[j]? = some x):i=j:=by
 obtain ⟨hi,e1⟩:=aj.1 h1
 obtain ⟨hj,e2⟩:=aj.1 h2
 have:=List.pairwise_iff_getElem.1 hn
 rcases Nat.lt_trichotomy i j with h | h | h
 · exact absurd (e1.trans e2.symm) (this i j hi hj h)
 · exact h
 · exact absurd (e2.trans e1.symm) (this j i hj hi h)
theorem Lj {A:AF.FS} (W:A.WF) {i:Nat} {d:AF.cB} (hd:A.dirs[i]? = some d):A.at d.name=some i:=by
 cases ha:A.at d.name with
 | none=>exact absurd rfl (AF.p8 ha d (ai hd))
 | some j=>
   obtain ⟨e,he,hn⟩:=AF.p7 ha;have hnd:=pz W;have h1:(A.dirs.map (·.name))[i]? = some d.name:=by rw [getElem?_map,hd]; rfl
   have h2:(A.dirs.map (·.name))[j]? = some d.name:=by rw [getElem?_map,he,← hn]; rfl
   rw [z7 hnd h1 h2]
theorem tV {A:AF.FS} (W:A.WF) {i:Nat} {d:AF.cB} (hd:A.dirs[i]? = some d):mM A d.name=xz A d.now:=by
 unfold mM
 rw [Lj W hd]
 simp only [AF.jp hd]
theorem EI {A:AF.FS} (W:A.WF):A.used=((A.dirs.map (·.name)).map (mM A)).sum:=by
 unfold AF.FS.used AF.FS.idx
 rw [po,map_map]
 congr 1
 apply map_congr_left
 intro d hd
 obtain ⟨i,hi⟩:=getElem?_of_mem hd
 show _=mM A d.name
 rw [tV W hi,map_map]
 rfl
theorem BJ {A:AF.FS} {q:tp} (W:A.WF) (hq:mE A q):(q.m.map fun e=>mM A e.1).sum=A.used:=by
 rw [EI W,← jg ((kn hq).map (mM A)),map_map]
 rfl
theorem zL {A:AF.FS} {l:AF.bH} (hu:AF.Up l):((l.map (·.1)).map (nS A l)).sum=xz A l:=by
 unfold xz
 rw [map_map]
 congr 1
 apply map_congr_left
 intro p hp
 show nS A l p.1=_
 unfold nS
 rw [AF.xU hu.nodup (f:=p.2) hp]
theorem BU {A:AF.FS} {xbs:List Nat} {l:AF.bH} {m:List (ByteArray×Value)} (hu:AF.Up l) (hp:m.Perm (l.map (kj xbs))):(m.map fun e=>nS A l e.1).sum=xz A l:=by
 rw [← zL hu,jg (hp.map fun e=>nS A l e.1),map_map,map_map]
 rfl
section
variable {b:Nat} {A:AF.FS} {q:tp} {F:List aG} {h:Heap}
theorem sU {xbs:List Nat} {fs:List AF.dB} {x:Nat} {y:AF.dB} {xb:Nat} (H:aD (cj xbs fs::F) h) (hx:fs[x]? = some y) (hb:xbs[x]? = some xb):∃ (a:Option Addr) (c:Nat),h[xb]? = some (.cells #[.slice a y.b.length c,.int .i64 (y.safe:Int)] 140 (0,0))∧dw h a (y.b.map nv):=by
 obtain ⟨r,H2⟩:=bw.1 (iw H hx hb)
 have H3:=H2.open
 exact ⟨r.1,r.2,H3.get,aI (H3.mv 1)⟩
theorem rj {room used0 steps fuse:Int} {off:Bool} (W:A.WF) (hq:mE A q) (H:aD (jy b room used0 steps fuse off q.md::bF aN q.md q.m::cj q.xbs A.files::du q.xbs q.fbs A.dirs::F) h) :
  aC prog 64 [aJ b] h fun v h'=>v=.tuple #[]∧aD (jy b room (A.used:Int) steps fuse off q.md::bF aN q.md q.m::cj q.xbs A.files::du q.xbs q.fbs A.dirs::F) h':=by
 apply Jh.ap
 unfold N5
 simp only [aV,aS]
 have hu:=W.used_le
 refine cd (i:=1) (v:=.int .i64 0) (c':=#[.int .i64 room,.int .i64 0,.int .i64 steps,.int .i64 fuse,.bool off,.map (some q.md)]) H (by show 1<6; decide) rfl fun h1 H1=>?_
 refine eU (v:=.map (some q.md)) H1 rfl ?_
 rw [bS]
 obtain ⟨es,clock,hm,H2⟩:=ee (H1.mv 1)
 refine g7 (k:=9) (e:=126) (by kernel_rfl) H2 H2.get fun p h2 H3=>?_
 rw [bC]
 refine yS (mb:=q.md) hm (G:=fun done=>jy b room (((done.map fun e:ByteArray×Value=>mM A e.1).sum:Nat):Int) steps fuse off q.md::cj q.xbs A.files::du q.xbs q.fbs A.dirs::F) ?_ ?_ ?_
 · exact H3
 · intro done h3 hp H4;refine ⟨trivial,?_⟩;have e:(done.map fun e:ByteArray×Value=>mM A e.1).sum=A.used:=by rw [jg (hp.map fun e=>mM A e.1),BJ W hq]
   rw [e] at H4;exact (df hm H4).mv 1
 · intro o done k v h3 again ⟨rest,hrest⟩ H4 hagain;have hmem:(k,v)∈q.m:=hrest.mem_iff.1 (by simp);obtain ⟨i,d,fb,hdi,hfi,rfl,rfl⟩:=(km hq).1 hmem;have w:=W.each d (ai hdi);have htot:(done.map fun e:ByteArray×Value=>mM A e.1).sum+xz A d.now≤A.used:=by
    have:=jg (hrest.map fun e:ByteArray×Value=>mM A e.1);rw [BJ W hq,map_append,sum_append,map_cons,sum_cons,tV W hdi] at this;omega
   refine ⟨_,some ⟨fb,0,none⟩,rfl,?_⟩;simp only [aV,aS];obtain ⟨nb,bb,a,c,H5⟩:=jE (H4.mv 4) hdi hfi;refine fW (v:=.map (some nb)) H5.get rfl ?_;rw [bS];obtain ⟨m2,hp2,H6⟩:=fj (H5.mv 1);obtain ⟨es2,clock2,hm2,H7⟩:=ee H6;refine g7 (k:=9) (e:=134) Kn H7 H7.get fun p2 h4 H8=>?_;rw [bC];refine yS (mb:=nb) hm2 (G:=fun done2=>jy b room (((done.map fun e:ByteArray×Value=>mM A e.1).sum+(done2.map fun e:ByteArray×Value=>nS A d.now e.1).sum:Nat):Int) steps fuse off q.md::cj q.xbs A.files::
    pt fb (mt nb bb a d.pend.length c)::cw q.xbs bb d.base::j7 (mS q.xbs) 132 a d.pend.length c d.pend::m7 q.xbs q.fbs A.dirs i::pt p o::pt q.md (.map es clock)::F) ?_ ?_ ?_
   · exact H8.ordT 10 [0,1,8,9,2,3,4,5,6,7]
   · intro done2 h5 hp3 H9;have e:(done2.map fun e:ByteArray×Value=>nS A d.now e.1).sum=mM A d.name:=by
      rw [jg (hp3.map fun e=>nS A d.now e.1),BU w.ok.up hp2,tV W hdi]
     rw [e] at H9;refine hagain h5 ?_;rw [map_append,sum_append,map_cons,map_nil,sum_cons,List.sum_nil,Nat.add_zero];have H10:=dy hp2 (df hm2 H9);have H11:=m6 (d:=d) hdi hfi (H10.ordT 9 [3,0,4,5,6,7,8,1,2]);rw [j1 hdi] at H11;exact H11.ordT 5 [1,2,3,4,0]
   · intro o2 done2 k2 v2 h5 again2 ⟨rest2,hrest2⟩ H9 hagain2;have hmem2:(k2,v2)∈d.now.map (kj q.xbs):=hp2.mem_iff.1 (hrest2.mem_iff.1 (by simp));obtain ⟨pr,hpr,epr⟩:=List.mem_map.1 hmem2;obtain ⟨k3,x⟩:=pr;simp only [kj,Prod.mk.injEq] at epr;obtain ⟨rfl,rfl⟩:=epr;obtain ⟨y,xb,hy,hxb,hgd⟩:=yD hq (w.ok.each _ hpr).1;have hlen:nS A d.now k3=y.b.length:=by
      unfold nS;rw [AF.xU w.ok.up.nodup hpr];simp only [AF.re hy]
     have htot2:(done2.map fun e:ByteArray×Value=>nS A d.now e.1).sum+y.b.length≤xz A d.now:=by
      have:=jg (hrest2.map fun e:ByteArray×Value=>nS A d.now e.1);rw [BU w.ok.up hp2,map_append,sum_append,map_cons,sum_cons,hlen] at this;omega
     refine ⟨_,some ⟨xb,0,none⟩,by rw [hgd]; rfl,?_⟩;simp only [aV,aS];refine eU (v:=.int .i64 (((done.map fun e:ByteArray×Value=>mM A e.1).sum+(done2.map fun e:ByteArray×Value=>nS A d.now e.1).sum:Nat):Int)) (H9.mv 2) rfl ?_;rw [aK];obtain ⟨ya,yc,hyb,_⟩:=sU (H9.mv 3) hy hxb;refine fW (v:=.slice ya y.b.length yc) hyb rfl ?_;rw [aF,← Int.natCast_add,cv (by omega)];refine cd (i:=1) (c':=#[.int .i64 room,.int .i64 (((done.map fun e:ByteArray×Value=>mM A e.1).sum+(done2.map fun e:ByteArray×Value=>nS A d.now e.1).sum+y.b.length:Nat):Int),.int .i64 steps,.int .i64 fuse,.bool off,.map (some q.md)]) (H9.mv 2) (by show 1<6; decide) rfl fun h6 H10=>?_;refine hagain2 h6 ?_;rw [map_append,sum_append,map_cons,map_nil,sum_cons,List.sum_nil,Nat.add_zero,hlen,← Nat.add_assoc];exact H10.ordT 3 [1,2,0]
end
theorem OV:prog.underlying 127=some (.slice 132):=by kernel_rfl
theorem Kw:fF prog 127=true:=by kernel_rfl
theorem KW:gQ prog 132 8=true:=by kernel_rfl
section
variable {b:Nat} {A:AF.FS} {q:tp} {F:List aG} {h:Heap}
theorem qQ {B:AF.FS} (hq:mE A q) (hn:B.dirs.map (·.name)=A.dirs.map (·.name)) (hf:B.files.length=A.files.length):mE B q:=by
 have hl:B.dirs.length=A.dirs.length:=by have:=congrArg List.length hn; simpa using this
 refine ⟨hq.1.trans (.of_eq ?_),by rw [hq.2.1,hl],by rw [hq.2.2,hf]⟩
 apply List.ext_getElem?
 intro i
 rw [getElem?_zipWith,getElem?_zipWith]
 have h1:(B.dirs.map (·.name))[i]? = (A.dirs.map (·.name))[i]? := by rw [hn]
 rw [getElem?_map,getElem?_map] at h1
 cases ha:A.dirs[i]? with
 | none=>
   rw [ha] at h1
   cases hb:B.dirs[i]? with
   | none=>rfl
   | some d=>rw [hb] at h1; cases h1
 | some e=>
   rw [ha] at h1
   cases hb:B.dirs[i]? with
   | none=>rw [hb] at h1; cases h1
   | some d=>
     rw [hb] at h1;simp only [Option.map_some,Option.some.injEq] at h1
     cases q.fbs[i]? with
     | none=>rfl
     | some fb=>simp only [h1]
theorem kD {ds:List AF.cB} {i:Nat} {g:AF.cB→AF.cB} (hg:∀ d,(g d).name=d.name):(ds.modify i g).map (·.name)=ds.map (·.name):=by
 apply List.ext_getElem?
 intro j
 rw [getElem?_map,getElem?_map,hZ]
 cases ds[j]? with
 | none=>rfl
 | some d=>
   by_cases h:i=j
   · simp [h,hg]
   · simp [h]
theorem p5 (hq:mE A q) (i:Nat) (o:AF.Op):mE (A.did i o) q:=qQ hq (kD fun d=>rfl) rfl
theorem pm {i:Nat} {d:AF.cB} {fb:Nat} {o:AF.Op} {fv:Fn} {fp fc:Array Value} (W:A.WF) (W2:(A.stepOn.did i o).WF) (hq:mE A q) (hd:A.dirs[i]? = some d) (hf:q.fbs[i]? = some fb) (hfit:AF.my A.files.length d.now o) (hs:A.steps<1099511627776)
  (H:aD (Am b A q (mS q.xbs o (.func fv fp fc)::F)) h) :
  aC prog 120 [aJ b,aJ fb,.func fv fp fc] h fun v h'=>v=.int .i64 ((A.step fun g=>g.did i o).2:Int)∧aD (Am b (A.step fun g=>g.did i o).1 q F) h':=by
 apply GY.ap
 unfold Mw
 refine (jY W hs H).mono ?_
 rintro v h1 (⟨h0,rfl,H1⟩ | ⟨h0,rfl,H1⟩)
 · rw [aK,show ((60:Int)!=0)=true from rfl,ab];have e:(A.step fun g=>g.did i o)=({ A with off:=true },60):=by unfold AF.FS.step; rw [al h0]
   rw [e];exact ⟨rfl,(H1.mv 4).drop⟩
 · rw [aK,show ((0:Int)!=0)=false from rfl,aa];simp only [aV,aS];have e:(A.step fun g=>g.did i o)=(A.stepOn.did i o,0):=by unfold AF.FS.step; rw [ak h0]
   rw [e];have w:=W.each d (ai hd);obtain ⟨nb,bb,a,c,H2⟩:=jE (H1.mv 3) hd hf;refine fW (v:=.map (some nb)) H2.get rfl ?_;rw [bS];have H3:aD (cw q.xbs nb d.now::mS q.xbs o (.func fv fp fc)::pt fb (mt nb bb a d.pend.length c)::cw q.xbs bb d.base::j7 (mS q.xbs) 132 a d.pend.length c d.pend::m7 q.xbs q.fbs A.dirs i::
    cM b A.stepOn q.md::bF aN q.md q.m::cj q.xbs A.files::F) h1:=H2.ordT 9 [1,8,0,2,3,4,5,6,7]
   refine (yO H3 w.ok hfit).mono ?_;rintro r h2 ⟨rfl,H4⟩;refine ⟨rfl,?_⟩;refine eU (i:=2) (v:=.slice a d.pend.length c) (H4.mv 2) rfl ?_;rw [aF];refine aQ H4 fun b0 h3 H5=>?_;have hpl:=w.pend;have hr:dw h3 (some ⟨b0,0,none⟩) [.func fv fp fc]:=by
    intro j v hv;rw [dR H5.get]
    cases j with
    | zero=>exact hv
    | succ j=>simp at hv
   have H6:aD (j7 (mS q.xbs) 132 a d.pend.length c d.pend::mS q.xbs o (.func fv fp fc)::pt b0 (.cells #[.func fv fp fc] 132 (0,0))::cw q.xbs nb (AF.does d.now o)::pt fb (mt nb bb a d.pend.length c)::cw q.xbs bb d.base::m7 q.xbs q.fbs A.dirs i::
    cM b A.stepOn q.md::bF aN q.md q.m::cj q.xbs A.files::F) h3:=H5.ordT 10 [5,2,0,1,3,4,6,7,8,9]
   refine KB (b:=8) OV Kw KW (by omega) H6 rfl hr fun a2 c2 h4 H7=>?_;rw [aF];refine cd (b:=fb) (i:=2) (c':=#[.map (some nb),.map (some bb),.slice a2 (d.pend.length+1) c2]) (H7.mv 3) (by show 2<3; decide) rfl fun h5 H8=>?_;have H9:aD (pt fb (mt nb bb a2 (d.did o).pend.length c2)::cw q.xbs nb (d.did o).now::cw q.xbs bb (d.did o).base::j7 (mS q.xbs) 132 a2 (d.did o).pend.length c2 (d.did o).pend::m7 q.xbs q.fbs A.dirs i::
    cM b A.stepOn q.md::bF aN q.md q.m::cj q.xbs A.files::F) h5:=by
    have e2:(d.did o).pend.length=d.pend.length+1:=by
     show (d.pend++[o]).length=_;simp
    rw [e2];exact ((H8.mv 2).drop).ordT 8 [0,2,3,1,4,5,6,7]
   have H10:=m6 hd hf H9;have e3:A.dirs.set i (d.did o)=(A.stepOn.did i o).dirs:=(dz (l:=A.dirs) (fun d:AF.cB=>d.did o) hd).symm;rw [e3] at H10;refine (rj (A:=A.stepOn.did i o) W2 (p5 hq i o) (H10.ordT 4 [1,2,3,0])).mono ?_;rintro r h6 ⟨rfl,H11⟩;exact ⟨rfl,rfl,H11⟩
end
theorem zN {l m:List aG} (h:l.Perm m) {r:fe} (H:mq l r):mq m r:=by
 induction h generalizing r with
 | nil=>exact H
 | cons x _ ih=>exact fu (fun _ h=>h) (fun _ h=>ih h) H
 | swap x y l=>exact qn H
 | trans _ _ h1 h2=>exact h2 (h1 H)
theorem sy {l m F:List aG} {h:Heap} (hp:l.Perm m) (H:aD (dh l::F) h):aD (dh m::F) h:=H.imp fun r hr=>zN hp hr
theorem nV (d:AF.cB):∀ ds:List AF.cB,∃ k,k≤ds.length∧AF.cW d ds=ds.take k++d::ds.drop k
 | []=>⟨0,av _,rfl⟩
 | e::ds=>by
   unfold AF.cW;split
   · exact ⟨0,au _,rfl⟩
   · obtain ⟨k,hk,he⟩:=nV d ds;exact ⟨k+1,by simp only [ao]; omega,by rw [he]; rfl⟩
theorem rJ {α β γ:Type} (E:α→β→γ) (x:α) (y:β) (xs:List α) (ys:List β) (k:Nat) (hl:xs.length=ys.length):(zipWith E (xs.take k++x::xs.drop k) (ys.take k++y::ys.drop k)).Perm (E x y::zipWith E xs ys):=by
 rw [zipWith_append (by rw [aq,aq,hl]),zipWith_cons_cons]
 refine List.perm_middle.trans (.cons _ (.of_eq ?_))
 conv=>rhs; rw [← take_append_drop k xs,← take_append_drop k ys]
 rw [zipWith_append (by rw [aq,aq,hl])]
theorem OW:prog.underlying 115=some (.map 9 126):=by kernel_rfl
section
variable {b:Nat} {A:AF.FS} {q:tp} {F:List aG} {h:Heap}
theorem sq {xbs:List Nat} {mb:Nat} (H:aD (pt mb (.map #[] 0)::F) h):aD (cw xbs mb []::F) h:=dy (m:=[]) (.refl _) (nH aN H)
theorem wV {dir:ByteArray} (W:A.WF) (hs:A.steps<1099511627776) (hd:dir.size<4611686018427387904) (H:aD (cg b A::F) h) :
  aC prog 78 [aJ b,.string dir] h fun v h'=>v=.int .i64 ((A.mkdir dir).2:Int)∧aD (cg b (A.mkdir dir).1::F) h':=by
 obtain ⟨q,hq,H1⟩:=dr H
 apply I4.ap
 unfold NR
 refine (g5 (ss:=[]) (a:=none) (c:=0) W hq H1 rfl rfl (show 0<1000 by omega) hd (by simp)).mono ?_
 rintro v h1 ⟨rfl,hcase⟩
 rcases hcase with ⟨i,d,fb,he,hdi,hfi,rfl⟩ | ⟨e,he,hne,rfl⟩
 · refine ⟨_,0,rfl,?_⟩;rw [show ((0:Int)==0)=true from rfl,ab];unfold AF.FS.mkdir;rw [he];exact ⟨rfl,bA q hq H1⟩
 · refine ⟨none,(e:Int),rfl,?_⟩;have e0:e≠0:=by omega
   rw [n8 e0,aa];by_cases h61:e=61
   · subst h61;rw [show (((61:Nat):Int)!=61)=false from rfl,aa];simp only [aV];refine eU (v:=.map (some q.md)) H1 rfl ?_;rw [bS];obtain ⟨es,clock,hm,hes⟩:=fP (H1.mv 1);refine ⟨es,hes,?_⟩;have hml:q.m.length=A.dirs.length:=by have:=(kn hq).length_eq; simpa using this
     rw [hm.size,hml];by_cases h64:64≤A.dirs.length
     · rw [af (show ((A.dirs.length:Int)≥64) by omega),ab];unfold AF.FS.mkdir;rw [he];simp only [if_true,al h64];exact ⟨rfl,bA q hq H1⟩
     · rw [ae (show ¬ ((A.dirs.length:Int)≥64) by omega),aa];have em:A.mkdir dir=A.step fun g=>{ g with dirs:=AF.cW ⟨dir,[],[],[]⟩ g.dirs }:=by
        unfold AF.FS.mkdir;rw [he];simp only [if_true,ak h64]
       have W2:=W.mkdir dir;rw [em] at W2 ⊢;refine (jY W hs H1).mono ?_;rintro v h2 (⟨h0,rfl,H2⟩ | ⟨h0,rfl,H2⟩)
       · rw [aK,show ((60:Int)!=0)=true from rfl,ab];unfold AF.FS.step;rw [al h0];exact ⟨rfl,bA (A:={ A with off:=true }) q hq H2⟩
       · rw [aK,show ((0:Int)!=0)=false from rfl,aa];unfold AF.FS.step at W2 ⊢;rw [ak h0] at W2 ⊢;refine eU (v:=.map (some q.md)) H2 rfl ?_;rw [bS];refine aQ H2 fun b0 h3 H3=>aQ H3 fun b1 h4 H4=>aQ H4 fun b2 h5 H5=>?_;refine dY (E:=aN) (k:=dir) OW u9 (H5.mv 4) fun h6 H6=>?_;obtain ⟨k,hk,hins⟩:=nV ⟨dir,[],[],[]⟩ A.dirs;have hfl:A.dirs.length=q.fbs.length:=hq.2.1.symm;refine ⟨rfl,bA (A:={ A.stepOn with dirs:=AF.cW ⟨dir,[],[],[]⟩ A.stepOn.dirs }) ⟨q.md,q.fbs.take k++b2::q.fbs.drop k,q.xbs,ij q.m dir (aJ b2)⟩ ⟨?_,?_,hq.2.2⟩ ?_⟩
         · show (ij q.m dir (aJ b2)).Perm (zipWith _ (AF.cW ⟨dir,[],[],[]⟩ A.dirs) _);rw [hins];have hno:∀ p∈q.m,p.1≠dir:=by
            rintro ⟨k,v⟩ hp e;obtain ⟨i,d,fb,h1,_,h2,_⟩:=(km hq).1 hp;exact AF.p8 (AF.vF he).2 d (ai h1) (by rw [← h2]; exact e)
           refine (rK (m4 W hq)).trans ?_;rw [oU hno];exact (hq.1.cons _).trans (rJ (fun (d:AF.cB) fb=>(d.name,aJ fb)) ⟨dir,[],[],[]⟩ b2 A.dirs q.fbs k hfl).symm
         · show (q.fbs.take k++b2::q.fbs.drop k).length=(AF.cW ⟨dir,[],[],[]⟩ A.dirs).length;rw [(AF.iy _ _).length_eq];simp only [am,aq,ao,length_drop];omega
         · have hdir:aD (du q.xbs (q.fbs.take k++b2::q.fbs.drop k) (AF.cW ⟨dir,[],[],[]⟩ A.dirs)::bF aN q.md (ij q.m dir (aJ b2))::cM b A.stepOn q.md::cj q.xbs A.files::F) h6:=by
            have H7:aD (pt b0 (.map #[] 0)::pt b1 (.map #[] 0)::pt b2 (mt b0 b1 none 0 0)::du q.xbs q.fbs A.dirs::bF aN q.md (ij q.m dir (aJ b2))::cM b A.stepOn q.md::cj q.xbs A.files::F) h6:=H6.ordT 7 [3,2,1,6,0,4,5];have H8:=sq (xbs:=q.xbs) ((sq (xbs:=q.xbs) H7).mv 1);have H9:=nI (mS q.xbs) 132 H8;have H10:aD (uA q.xbs ⟨dir,[],[],[]⟩ b2::du q.xbs q.fbs A.dirs::bF aN q.md (ij q.m dir (aJ b2))::cM b A.stepOn q.md::cj q.xbs A.files::F) h6:=by
             refine bw.2 ⟨⟨b0,b1,none,0⟩,aD.shut (m:=[pt b2 (mt b0 b1 none 0 0),cw q.xbs b0 [],cw q.xbs b1 [],j7 (mS q.xbs) 132 none 0 0 []]) ?_⟩;exact H9.ordT 4 [3,2,1,0]
            have H11:aD (dh (uA q.xbs ⟨dir,[],[],[]⟩ b2::zipWith (uA q.xbs) A.dirs q.fbs)::bF aN q.md (ij q.m dir (aJ b2))::cM b A.stepOn q.md::cj q.xbs A.files::F) h6:=by
             exact H10.consMany
            rw [hins];exact sy (rJ (uA q.xbs) ⟨dir,[],[],[]⟩ b2 A.dirs q.fbs k hfl).symm H11
           have eu:AF.FS.used { A.stepOn with dirs:=AF.cW ⟨dir,[],[],[]⟩ A.stepOn.dirs }=A.used:=by
            have:(AF.FS.idx { A.stepOn with dirs:=AF.cW ⟨dir,[],[],[]⟩ A.stepOn.dirs }).Perm A.idx:=by
             show ((AF.cW ⟨dir,[],[],[]⟩ A.dirs).flatMap _).Perm _;exact ((AF.iy _ _).flatMap_right _).trans (.of_eq rfl)
            exact jg (this.map _)
           unfold cM;rw [eu];exact hdir.ordT 4 [2,1,3,0]
   · have:((e:Int)!=61)=true:=by rw [bne_iff_ne]; omega
     rw [this,ab];unfold AF.FS.mkdir;rw [he];simp only [ak h61];exact ⟨by trivial,bA q hq H1⟩
end
def rS (n:Nat) (xs ys:List Nat):Prop:=∀ x,x<n→xs.getD x 0=ys.getD x 0
theorem mW {n:Nat} {xs ys:List Nat} (hs:rS n xs ys) {mb:Nat} {l:AF.bH} (hk:∀ p∈l,p.2<n):cw xs mb l=cw ys mb l:=by
 have e:l.map (kj xs)=l.map (kj ys):=map_congr_left fun p hp=>by unfold kj; rw [hs p.2 (hk p hp)]
 have e2:(l.map fun p=>(p.1,aJ (xs.getD p.2 0)))=l.map fun p=>(p.1,aJ (ys.getD p.2 0)):=e
 unfold cw
 rw [e2]
theorem EZ {n:Nat} {xs ys:List Nat} (hs:rS n xs ys) {o:AF.Op} (hk:∀ x∈AF.eJ o,x<n) (v:Value):mS xs o v=mS ys o v:=by
 cases o with
 | create k f=>simp only [mS,hs f (hk f (by simp [AF.eJ]))]
 | rename a b=>rfl
 | remove a=>rfl
theorem lY {α β γ:Type} {E G:α→β→γ}:∀ {xs:List α} {ys:List β},(∀ x∈xs,∀ y,E x y=G x y)→zipWith E xs ys=zipWith G xs ys
 | [],ys,h=>by simp
 | x::xs,[],h=>by simp
 | x::xs,y::ys,h=>by
   rw [zipWith_cons_cons,zipWith_cons_cons,h x (by simp),lY fun z hz=>h z (aB _ hz)]
theorem xM {α:Type} {E G:α→Value→aG} {e:TypeId} {a:Option Addr} {l c:Nat} {xs:List α} (h:∀ x∈xs,∀ v,E x v=G x v):j7 E e a l c xs=j7 G e a l c xs:=by
 unfold j7
 congr 1
 funext vs
 rw [lY h]
theorem zO {d:AF.cB} {o:AF.Op} (ho:o∈d.pend) {x:Nat} (hx:x∈AF.eJ o):x∈d.speaks:=List.mem_append.2 (.inr (List.mem_flatMap.2 ⟨o,ho,hx⟩))
theorem wv {n s:Nat} {xs ys:List Nat} (hs:rS n xs ys) {d:AF.cB} (w:d.WF n s) (fb:Nat):uA xs d fb=uA ys d fb:=by
 unfold uA
 congr 1
 funext r
 rw [mW hs fun p hp=>(w.ok.each p hp).1,mW hs fun p hp=>(w.runs.first.each p hp).1,xM fun o ho v=>EZ hs (fun x hx=>AF.jZ w (zO ho hx)) v]
theorem td {n s:Nat} {xs ys fbs:List Nat} (hs:rS n xs ys) {ds:List AF.cB} (w:∀ d∈ds,d.WF n s):du xs fbs ds=du ys fbs ds:=by
 unfold du
 rw [lY fun d hd fb=>wv hs (w d hd) fb]
theorem mP (xs:List Nat) (x:Nat):rS xs.length xs (xs++[x]):=fun i hi=>by
 rw [getD_eq_getElem?_getD,getD_eq_getElem?_getD,List.getElem?_append_left hi]
theorem tR {A:AF.FS} (W:A.WF) (y:AF.dB):AF.FS.used { A with files:=A.files++[y] }=A.used:=by
 unfold AF.FS.used
 congr 1
 apply map_congr_left
 intro x hx
 have:=W.idx_lt hx
 show ((A.files++[y]).getD x default).b.length=(A.files.getD x default).b.length
 rw [getD_eq_getElem?_getD,getD_eq_getElem?_getD,List.getElem?_append_left this]
section
variable {b:Nat} {A:AF.FS} {q:tp} {F:List aG} {h:Heap}
theorem CI {xb:Nat} (H:aD (pt xb (.cells #[.slice none 0 0,.int .i64 0] 140 (0,0))::F) h):aD (wr ⟨[],0⟩ xb::F) h:=by
 refine bw.2 ⟨(none,0),aD.shut (m:=[pt xb (.cells #[.slice none 0 0,.int .i64 ((0:Nat):Int)] 140 (0,0)),aL 5 1 none 0 0 []]) ?_⟩
 exact (bG 5 1 H).mv 1
theorem IT {b0:Nat} {e:TypeId} {v:Value} (H:aD (pt b0 (.cells #[v] e (0,0))::F) h):dw h (some ⟨b0,0,none⟩) [v]:=by
 intro j u hv
 rw [dR H.get]
 cases j with
 | zero=>exact hv
 | succ j=>simp at hv
theorem wU {dir name:ByteArray} (W:A.WF) (hs:A.steps<1099511627776) (hd:dir.size<4611686018427387904) (hn:name.size<4611686018427387904) (H:aD (cg b A::F) h) :
  aC prog 79 [aJ b,.string dir,.string name] h fun v h'=>v=.int .i64 ((A.create dir name).2:Int)∧aD (cg b (A.create dir name).1::F) h':=by
 obtain ⟨q,hq,H0⟩:=dr H
 apply I3.ap
 unfold NQ
 refine aQ H0 fun b0 h1 H1=>?_
 refine fW (v:=.string name) H1.get rfl ?_
 rw [aR]
 refine aQ H1 fun b1 h2 H2=>?_
 have H3:aD (Am b A q (pt b0 (.cells #[.string name] 9 (0,0))::pt b1 (.cells #[.string name] 9 (0,0))::F)) h2:=H2.ordT 6 [2,3,4,5,1,0]
 refine (g5 (ss:=[name]) W hq H3 (IT H2) rfl (show 1<1000 by omega) hd (fun s hs=>by simp at hs; rw [hs]; exact hn)).mono ?_
 rintro v h3 ⟨rfl,hcase⟩
 have Hd:aD (Am b A q F) h3:=(((H3.mv 5).drop).mv 4).drop
 rcases hcase with ⟨i,d,fb,he,hdi,hfi,rfl⟩ | ⟨e,he,hne,rfl⟩
 · have w:=W.each d (ai hdi);obtain ⟨nb,bb,a,c,es,hfb,hes,hsz,hlk⟩:=lM (H3.mv 3) hdi hfi w.ok.up;obtain ⟨f,hf,hl⟩:=hlk name;refine ⟨some ⟨fb,0,none⟩,0,rfl,?_⟩;rw [show ((0:Int)!=0)=false from rfl,aa];simp only [aV,aS];have rd:∀ K:Value→Prop,K (.map (some nb))→Ld h3 ⟨fb,0,none⟩ K:=fun K hK=>⟨_,by rw [bD hfb]; rfl,hK⟩
   refine rd _ ?_;rw [bS];refine fW (v:=.string name) (H3.mv 4).get rfl ?_;rw [aR];refine ⟨es,hes,f,hf,lb hl ?_⟩;have hD:=AF.jp hdi
   cases ho:AF.of d.now name with
   | some x=>
     show bif (true:Bool) then _ else _
     rw [ab];have e:A.create dir name=(A,63):=by
      unfold AF.FS.create;rw [he];simp only [hD,ho,Option.isSome_some,if_true]
     rw [e];exact ⟨rfl,bA q hq Hd⟩
   | none=>
     show bif (false:Bool) then _ else _
     rw [aa];refine rd _ ?_;rw [bS];refine ⟨es,hes,?_⟩;rw [hsz];by_cases h64:4096≤d.now.length
     · rw [af (show ((d.now.length:Int)≥4096) by omega),ab];have e:A.create dir name=(A,66):=by
        unfold AF.FS.create;rw [he];simp only [hD,ho,Option.isSome_none,Bool.false_eq_true,if_false,al h64]
       rw [e];exact ⟨rfl,bA q hq Hd⟩
     · rw [ae (show ¬ ((d.now.length:Int)≥4096) by omega),aa];have e:A.create dir name=A.step fun g=>AF.FS.did { g with files:=g.files++[⟨[],0⟩] } i (.create name g.files.length):=by
        unfold AF.FS.create;rw [he];simp only [hD,ho,Option.isSome_none,Bool.false_eq_true,if_false,ak h64]
       refine aQ H3 fun b2 h4 H4=>aQ H4 fun b3 h5 H5=>?_;refine vq (v:=aJ b2) H5 fun h6 H6=>?_;obtain ⟨_,hdr,hr,_,_⟩:=AF.dH he;have hrn:=hr name (by simp);have hx:(q.xbs++[b2]).getD A.files.length 0=b2:=by
        rw [← hq.2.2,getD_eq_getElem?_getD,List.getElem?_append_right (av _)];simp
       have H7:=(H6.freeze.mv 6).freeze;have H8:aD (cM b A q.md::bF aN q.md q.m::cj (q.xbs++[b2]) (A.files++[⟨[],0⟩])::du (q.xbs++[b2]) q.fbs A.dirs::mS (q.xbs++[b2]) (.create name A.files.length) (.func (.func 143) #[] #[aJ b3,aJ b0])::F) h6:=by
        have K1:=CI (H7.mv 2);have K2:aD (cj q.xbs A.files::wr ⟨[],0⟩ b2::ro b0 (.cells #[.string name] 9 (0,0))::ro b3 (.cells #[aJ b2] 134 (0,0))::cM b A q.md::bF aN q.md q.m::du q.xbs q.fbs A.dirs::F) h6:=(((K1.mv 7).drop).mv 5)
        have K3:=vU hq.2.2.symm K2;have K4:aD (dh [mC ((Value.func (.func 143) #[] #[aJ b3,aJ b0])=.func (.func 143) #[] #[aJ b3,aJ b0]),ro b3 (.cells #[aJ ((q.xbs++[b2]).getD A.files.length 0)] 134 (0,0)),ro b0 (.cells #[.string name] 9 (0,0))]::
         cj (q.xbs++[b2]) (A.files++[⟨[],0⟩])::cM b A q.md::bF aN q.md q.m::du q.xbs q.fbs A.dirs::F) h6:=by
         refine aD.shut ?_;refine cC.2 ⟨rfl,?_⟩;rw [hx];exact K3.ordT 6 [2,1,0,3,4,5]
        have K5:aD (mS (q.xbs++[b2]) (.create name A.files.length) (.func (.func 143) #[] #[aJ b3,aJ b0])::cj (q.xbs++[b2]) (A.files++[⟨[],0⟩])::cM b A q.md::bF aN q.md q.m::du q.xbs q.fbs A.dirs::F) h6:=bw.2 ⟨(b3,b0),K4⟩;have es:du q.xbs q.fbs A.dirs=du (q.xbs++[b2]) q.fbs A.dirs:=td (n:=A.files.length) (s:=A.steps) (by rw [← hq.2.2]; exact mP _ _) W.each;rw [es] at K5;exact K5.ordT 5 [2,3,1,4,0]
       have eu:=tR W ⟨[],0⟩;have eraw:cM b A q.md=cM b { A with files:=A.files++[⟨[],0⟩] } q.md:=by unfold cM; rw [eu]
       rw [eraw] at H8;have W1:AF.FS.WF { A with files:=A.files++[⟨[],0⟩] }:=W.newFile;have hq1:mE { A with files:=A.files++[⟨[],0⟩] } ⟨q.md,q.fbs,q.xbs++[b2],q.m⟩:=⟨hq.1,hq.2.1,by simp [hq.2.2]⟩
       have hfit:AF.my (A.files++[(⟨[],0⟩:AF.dB)]).length d.now (.create name A.files.length):=by
        rw [am];exact AF.pK W hdi hrn (by omega)
       refine (pm (A:={ A with files:=A.files++[⟨[],0⟩] }) (q:=⟨q.md,q.fbs,q.xbs++[b2],q.m⟩) (i:=i) (o:=.create name A.files.length) W1 (AF.tg W hdi hrn (by omega)) hq1 hdi hfi hfit hs H8).mono ?_;rintro v h7 ⟨rfl,H9⟩;rw [aK,e];unfold AF.FS.step at H9 ⊢;by_cases h0:A.fuse=some 0
       · rw [al h0] at H9 ⊢;rw [al h0];refine ⟨rfl,bA (A:={ A with off:=true }) q hq ?_⟩;have es:du (q.xbs++[b2]) q.fbs A.dirs=du q.xbs q.fbs A.dirs:=(td (n:=A.files.length) (s:=A.steps) (by rw [← hq.2.2]; exact mP _ _) W.each).symm;have eraw2:cM b { ({ A with files:=A.files++[⟨[],0⟩] }:AF.FS) with off:=true } q.md=cM b { A with off:=true } q.md:=by
          have:AF.FS.used { ({ A with files:=A.files++[⟨[],0⟩] }:AF.FS) with off:=true }=AF.FS.used { A with off:=true }:=eu;unfold cM;rw [this]
         have K1:aD (cj (q.xbs++[b2]) (A.files++[⟨[],0⟩])::cM b { A with off:=true } q.md::bF aN q.md q.m::du q.xbs q.fbs A.dirs::F) h7:=by
          rw [← eraw2,← es];exact H9.ordT 4 [2,0,1,3]
         have K2:aD (cj q.xbs A.files::cM b { A with off:=true } q.md::bF aN q.md q.m::du q.xbs q.fbs A.dirs::F) h7:=by
          have K3:=K1.open;rw [zipWith_append hq.2.2.symm,append_assoc] at K3;have K4:=K3.shut;exact (K4.mv 1).drop
         exact K2.ordT 4 [1,2,0,3]
       · rw [ak h0] at H9 ⊢;rw [ak h0];exact ⟨rfl,bA ⟨q.md,q.fbs,q.xbs++[b2],q.m⟩ (p5 hq1 i _) H9⟩
 · refine ⟨none,(e:Int),rfl,?_⟩;have e0:e≠0:=by omega
   rw [bm e0,ab];unfold AF.FS.create;rw [he];exact ⟨rfl,bA q hq Hd⟩
end
end Go.Proofs.YtibdiikcigokjaaGreat
