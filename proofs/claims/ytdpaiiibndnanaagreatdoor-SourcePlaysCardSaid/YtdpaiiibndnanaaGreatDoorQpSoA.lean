/- The document's log,opened on any files. -/
import Derived.Test.YtdpaiiibndnanaaGreatDoorQpSo9
namespace Go.Proofs.YtdpaiiibndnanaaGreatDoor
open Go.Builtin (append_)
open Go.IntKind (wrap)
open Go.Proofs.Tryz (prog)
open List (mem_of_mem_take mem_of_mem_drop length_drop drop_zero drop_of_length_le append_nil drop_eq_getElem_cons mem_cons_self drop_sublist length_singleton getLast?_append getLast?_singleton)
open Go Go.RowKit
set_option linter.unusedVariables false
set_option linter.unusedSimpArgs false
open AF (aU fq bh bX dE cG Gr)
open Frame (aY ci fK eK fY jR)
def yM (l_0:Option Addr) (xa:Option Addr) (xl xc:Nat) (h:Heap) (Q:Value→Heap→Prop):Prop:=
 bf (fun again1 (s3:Int) h_4=>
    (bif decide ((s3:Int)<(xl:Int)) then
     aO xa xl s3 1 fun a3=>
     Ld h_4 a3 fun v3=>DI .i64 v3 fun x5=>
     aR l_0 fun a4=>
     Ld h_4 (a4.add 4) fun v4=>DI .i64 v4 fun x6=>
     (bif (x5:Int)!=x6 then
      mX xa xc 1 s3 (xl:Int) (xc:Int) fun s4a s4l s4c=>
      aE prog 136 [.pointer l_0,.slice s4a s4l s4c] h_4 fun r3 h_5=>
      DI .i64 r3 fun x7=>
      Q (.int .i64 x7) h_5
     else
      aR l_0 fun a5=>
      Ld h_4 (a5.add 0) fun v5=>DP v5 fun x8=>
      aR l_0 fun a6=>
      Ld h_4 (a6.add 1) fun v6=>DS v6 fun x9=>
      aO xa xl s3 1 fun a7=>
      Ld h_4 a7 fun v7=>DI .i64 v7 fun x10=>
      aE prog 96 [.int .i64 x10] h_4 fun r4 h_6=>
      DS r4 fun x11=>
      (aJ (some (.pointer l_0)) (.pointer l_0))∧
      (aR l_0 fun a8=>
      aJ (some (.pointer (some a5))) (.pointer (some a8)))∧
      (aJ (some (.pointer (some (a5.add 0)))) (.pointer (some (a5.add 0))))∧
      (Ld h_6 (a5.add 0) fun v8=>DP v8 fun x12=>
      aJ (some (.pointer x8)) (.pointer x12))∧
      (aJ (some (.pointer l_0)) (.pointer l_0))∧
      (aR l_0 fun a9=>
      aJ (some (.pointer (some a6))) (.pointer (some a9)))∧
      (aJ (some (.pointer (some (a6.add 1)))) (.pointer (some (a6.add 1))))∧
      (Ld h_6 (a6.add 1) fun v9=>DS v9 fun x13=>
      aJ (some (.string x9)) (.string x13))∧
      aE prog 81 [.pointer x8,.string x9,.string x11] h_6 fun r5 h_7=>
      ∃ (x14:ByteArray),∃ (x15:Int),r5=.tuple #[.string x14,.int .i64 x15]∧
      (bif (x15:Int)!=0 then
       Q (.int .i64 x15) h_7
      else
       aE prog 98 [.string x14] h_7 fun r6 h_8=>
       ∃ (x16a:Option Addr),∃ (x16l:Nat),∃ (x16c:Nat),∃ (x17:Int),r6=.tuple #[.slice x16a x16l x16c,.int .i64 x17]∧
       aR l_0 fun a10=>
       Ld h_8 (a10.add 3) fun v10=>aZ v10 fun x18a x18l x18c=>
       aO xa xl s3 1 fun a11=>
       Ld h_8 a11 fun v11=>DI .i64 v11 fun x19=>
       Al h_8 (.cells #[.int .i64 x19,.int .i64 (x16l:Int),.int .i64 x17] 168) fun b1 h_9=>
       (aJ (some (.pointer l_0)) (.pointer l_0))∧
       (aJ (some (.pointer l_0)) (.pointer l_0))∧
       (aR l_0 fun a12=>
       aJ (some (.pointer (some a10))) (.pointer (some a12)))∧
       (aJ (some (.pointer (some (a10.add 3)))) (.pointer (some (a10.add 3))))∧
       (Ld h_9 (a10.add 3) fun v12=>aZ v12 fun x20a x20l x20c=>
       aJ (some (.slice x18a x18l x18c)) (.slice x20a x20l x20c))∧
       bB prog (append_ #[119,119] 119 #[.slice x18a x18l x18c,.slice (some (Addr.mk b1 0 none)) 1 1]) h_9 fun r8 h_10=>
       aZ r8 fun x21a x21l x21c=>
       (aJ (some (.pointer l_0)) (.pointer l_0))∧
       aR l_0 fun a13=>
       bN h_10 ((a13.add 3).add 0) (.slice x21a x21l x21c) fun h_12=>
       aR l_0 fun a14=>
       Ld h_12 (a14.add 4) fun v13=>DI .i64 v13 fun x22=>
       aR l_0 fun a15=>
       bN h_12 ((a15.add 4).add 0) (.int .i64 (wrap .i64 (x22+(x16l:Int)))) fun h_14=>
       (bif decide ((x17:Int)<((x14:ByteArray).size:Int)) then
        aR l_0 fun a16=>
        Ld h_14 (a16.add 0) fun v14=>DP v14 fun x23=>
        aR l_0 fun a17=>
        Ld h_14 (a17.add 1) fun v15=>DS v15 fun x24=>
        aO xa xl s3 1 fun a18=>
        Ld h_14 a18 fun v16=>DI .i64 v16 fun x25=>
        rm x14 0 x17 fun s5=>
        aE prog 96 [.int .i64 x25] h_14 fun r11 h_15=>
        DS r11 fun x26=>
        (aJ (some (.pointer l_0)) (.pointer l_0))∧
        (aR l_0 fun a19=>
        aJ (some (.pointer (some a16))) (.pointer (some a19)))∧
        (aJ (some (.pointer (some (a16.add 0)))) (.pointer (some (a16.add 0))))∧
        (Ld h_15 (a16.add 0) fun v17=>DP v17 fun x27=>
        aJ (some (.pointer x23)) (.pointer x27))∧
        (aJ (some (.pointer l_0)) (.pointer l_0))∧
        (aR l_0 fun a20=>
        aJ (some (.pointer (some a17))) (.pointer (some a20)))∧
        (aJ (some (.pointer (some (a17.add 1)))) (.pointer (some (a17.add 1))))∧
        (Ld h_15 (a17.add 1) fun v18=>DS v18 fun x28=>
        aJ (some (.string x24)) (.string x28))∧
        (aJ (some (.string x14)) (.string x14))∧
        (aJ (some (.int .i64 x17)) (.int .i64 x17))∧
        (rm x14 0 x17 fun s6=>
        aJ (some (.string s5)) (.string s6))∧
        aE prog 137 [.pointer x23,.string x24,.string x26,.string s5] h_15 fun r12 h_16=>
        DI .i64 r12 fun e0=>
        (bif (e0:Int)!=0 then
         Q (.int .i64 e0) h_16
        else
         mX xa xc 1 (wrap .i64 (s3+1)) (xl:Int) (xc:Int) fun s7a s7l s7c=>
         aE prog 136 [.pointer l_0,.slice s7a s7l s7c] h_16 fun r13 h_17=>
         DI .i64 r13 fun x29=>
         Q (.int .i64 x29) h_17)
       else
        again1 (wrap .i64 (s3+1)) h_14)))
    else
     Q (.int .i64 0) h_4)) 0 h
theorem AF.read_err {A:AF.FS} {dir name:ByteArray} {e:Nat} (h:A.read dir name=.error e):e≠0:=by
 unfold AF.FS.read at h
 split at h
 · rename_i x he;cases h;have:=AF.entry_err he;omega
 · cases h
section
variable {r m:Nat} {L:aU} {A:AF.FS} {F:List aF} {h:Heap} {k:Nat}
set_option maxHeartbeats 1000000 in
theorem tu {Q:Value→Heap→Prop} {all:List Nat} {aa:Option Addr} {al ac:Nat} (hr:∀ h',aG F h'→cv h' aa (mg all)) (hl:all.length=al) (hc:al≤ac) (hm:al≤4096) (hn:∀ n∈all,n<9223372036854775808) (hup:all.Pairwise (· < ·)) (W:A.WF) (hs:A.steps+6000<1099511627776) (hfs:A.files.length+6000<1099511627776)
  (I:L.Fit k) (hk:k+4096≤99999) (hnew:∀ n∈all,∀ p,L.parts.getLast? = some p→p.base<n) (H:aG (eI r m L::bd m A::F) h)
  (hQ:∀ h',aG (eI r m (aU.load all A L).2.1::bd m (aU.load all A L).1::F) h'→Q (.int .i64 ((aU.load all A L).2.2:Int)) h') :
  yM (some ⟨r,0,none⟩) aa al ac h Q:=by
 unfold yM
 simp only [aK]
 refine ⟨fun st hh=>∃ (i:Nat) (L2:aU),st=(i:Int)∧i≤al∧aU.load all A L=aU.load (all.drop i) A L2∧L2.Fit (k+i)∧(∀ n∈all.drop i,∀ p,L2.parts.getLast? = some p→p.base<n)∧aG (eI r m L2::bd m A::F) hh,
  fun st _=>((al:Int) - st).toNat,⟨0,L,rfl,aw _,rfl,I,hnew,H⟩,?_⟩
 rintro st h1 ⟨i,L2,rfl,hi,hload,I2,hnew2,H1⟩
 obtain ⟨a,c,H2⟩:=fX H1
 by_cases hil:i<al
 rotate_left
 · have:i=al:=by omega
   subst this;rw [af (by omega),ab];rw [drop_of_length_le (by omega)] at hload;have e:aU.load [] A L2=(A,L2,0):=rfl;rw [hload,e] at hQ;exact hQ _ H1
 rw [ah (show ((i:Int)<(al:Int)) by omega),ae]
 obtain ⟨n,hgn⟩:∃ n,all[i]? = some n:=⟨_,ai (by omega)⟩
 have hn1:=hn n (aj hgn)
 have hdrop:all.drop i=n::all.drop (i+1):=by
  rw [drop_eq_getElem_cons (by omega)];congr 1;exact (ak.1 hgn).2
 have S:=I2.small
 have hfin:=S.fin
 have hmany:=S.many
 have idx:∀ {hh:Heap} {K:Int→Prop},aG F hh→K (n:Int)→aO aa al (i:Int) 1 fun b=>Ld hh b fun v=>DI .i64 v K:=fun hF hK=>
  cN (hr _ hF) (by rw [mf]; exact hl) (n6 hgn) fun b hb=>⟨_,hb,(n:Int),rfl,hK⟩
 refine idx (H2.rest 3) ?_
 refine bM (x:=(L2.fin:Int)) H2 rfl ?_
 by_cases hnf:n=L2.fin
 rotate_left
 · rw [show (((n:Nat):Int)!=(L2.fin:Int))=true from by rw [bne_iff_ne]; omega,ae];refine dI hi hc (ax ac) ?_;have hr2:∀ h',aG F h'→cv h' (fG aa i ac 1) (mg (all.drop i)):=fun h' H'=>n4 (hr h' H') hl hc hi;refine (rA hr2 (by rw [length_drop,hl]) (by omega) (fun m hm2=>hn m (mem_of_mem_drop hm2)) W (by omega) H1).mono ?_;rintro v h3 ⟨rfl,H3⟩;rw [aL];rw [hload,hdrop,AF.aU.load_off hnf] at hQ;rw [hdrop] at H3 ⊢;exact hQ _ H3
 rw [show (((n:Nat):Int)!=(L2.fin:Int))=false from by rw [hnf]; simp,ab]
 refine dK H2 rfl ?_
 refine bz H2 rfl ?_
 refine idx (H2.rest 3) ?_
 refine (iP hn1 H2).mono ?_
 rintro v h3 ⟨rfl,H3⟩
 rw [aT]
 refine ⟨rfl,rfl,rfl,dK H3 rfl rfl,rfl,rfl,rfl,bz H3 rfl rfl,?_⟩
 refine (pJ (dir:=L2.dir) (name:=cG n) W (H3.mv 2)).mono ?_
 rintro v h4 ⟨rfl,rfl⟩
 cases hrd:A.read L2.dir (cG n) with
 | error e=>
   refine ⟨.empty,(e:Int),rfl,?_⟩;rw [aX (AF.read_err hrd),ae];rw [hload,hdrop,AF.aU.load_err hnf hrd] at hQ;exact hQ _ (cK H3)
 | ok bs=>
   obtain ⟨h8,hlen⟩:=AF.nZ W hrd;refine ⟨dW bs,0,rfl,?_⟩;rw [show ((0:Int)!=0)=false from rfl,ab];have hz:=dC h8;have hgl:=gX h8;have hgr:=AF.mU h8;refine (tT (s:=dW bs) H3 (by omega)).mono ?_;rw [dx h8];rintro v h5 ⟨ga,gc,G,rfl,H5,_⟩;have H6:=H5.drop;refine ⟨ga,_,gc,_,rfl,?_⟩;refine bH (a:=a) (l:=L2.parts.length) (m:=c) H6 rfl ?_;refine idx (H6.rest 3) ?_;refine aW H6 fun b0 h7 H7=>?_;refine ⟨rfl,rfl,rfl,rfl,bH (a:=a) (l:=L2.parts.length) (m:=c) (H7.mv 1) rfl rfl,?_⟩;have hrp:cv h7 (some ⟨b0,0,none⟩) (bA [⟨n,(bp bs).length,aY (bp bs)⟩]):=ge H7 rfl;refine gP Im Ir CZ (H7.mv 2) (n:=1) (bJ hrp rfl) (by intro u hu; simp [bA] at hu; rcases hu with rfl | rfl | rfl <;> rfl) (by omega) fun a' c' h8' _ H8=>?_;rw [aI];refine ⟨rfl,?_⟩;have H9:=H8.ordT 4 [2,0,3];refine ct (c':=eJ m { L2 with parts:=L2.parts++[⟨n,(bp bs).length,aY (bp bs)⟩] } a' c') H9 (by show 3<6; decide) (by simp only [eJ,ao,length_singleton]; rfl) fun h9 H10=>?_;refine bM (x:=(L2.fin:Int)) H10 rfl ?_;rw [IntWalk.i64_in _ (by omega)];refine ct (c':=eJ m (L2.got n bs) a' c') H10 (by show 4<6; decide) (by simp only [eJ,AF.aU.got]; rfl) fun h10 H11=>?_;have hnew3:∀ p,L2.parts.getLast? = some p→p.base<L2.fin:=fun p hp=>by
    rw [← hnf];exact hnew2 n (by rw [hdrop]; exact mem_cons_self ..) p hp
   have I3:(L2.got n bs).Fit (k+i+1):=by
    rw [hnf];exact I2.got (by omega) h8 hlen hnew3
   have epl:(L2.got n bs).parts.length=L2.parts.length+1:=by unfold AF.aU.got; rw [ao]; rfl
   have H12:aG (pt r (.cells (eJ m (L2.got n bs) a' c') 121 (0,0))::aQ 168 3 a' (L2.got n bs).parts.length c' (bA (L2.got n bs).parts)::bd m A::F) h10:=by
    rw [← dt] at H11;rw [epl];exact H11
   have H13:=cK H12;by_cases hcut:aY (bp bs)<bs.length
   rotate_left
   · rw [af (by omega),ab];refine ⟨⟨i+1,L2.got n bs,by rw [IntWalk.i64_in _ (by omega)]; rfl,by omega,by rw [hload,hdrop,AF.aU.load_on hnf hrd hcut],I3,?_,H13⟩,by rw [IntWalk.i64_in _ (by omega)]; show ((al:Int) - ((i:Int)+1)).toNat<((al:Int) - (i:Int)).toNat; omega⟩;intro m hm2 p hp;unfold AF.aU.got at hp;dsimp only at hp;rw [getLast?_append,getLast?_singleton] at hp;cases hp;dsimp only;have hup2:(all.drop i).Pairwise (· < ·):=hup.sublist (drop_sublist _ _);rw [hdrop] at hup2;exact (List.pairwise_cons.1 hup2).1 m hm2
   rw [ah (by omega),ae];refine dK H12 rfl ?_;refine bz H12 rfl ?_;refine idx (H12.rest 3) ?_;refine ⟨by omega,by omega,by omega,?_⟩;refine (iP hn1 H12).mono ?_;rintro v h11 ⟨rfl,H14⟩;rw [aT];refine ⟨rfl,rfl,rfl,dK H14 rfl rfl,rfl,rfl,rfl,bz H14 rfl rfl,rfl,rfl,⟨by omega,by omega,by omega,rfl⟩,?_⟩;have esb:sb ((dW bs).extract (0:Int).toNat (((aY (bp bs):Nat):Int)).toNat)=bs.take (aY (bp bs)):=by
    rw [dR,dx h8,Int.toNat_natCast,Int.toNat_zero,drop_zero,Nat.sub_zero]
   have hzx:((dW bs).extract (0:Int).toNat (((aY (bp bs):Nat):Int)).toNat).size<4611686018427387904:=by
    rw [← bE,esb,au];omega
   have H15:=(cK H14).mv 1;refine (xB (dir:=(L2.got n bs).dir) (name:=cG n) W (by omega) (by omega) hzx H15).mono ?_;rw [esb];rintro v h12 ⟨rfl,H16⟩;rw [aL];have ed:(L2.got n bs).dir=L2.dir:=rfl;rw [ed] at H16 ⊢;have h8t:B8 (bs.take (aY (bp bs))):=fun x hx=>h8 x (mem_of_mem_take hx);obtain ⟨W2,G2⟩:=AF.qy L2.dir (cG n) h8t W;have g2:=G2.1;by_cases h2:(A.raw L2.dir (cG n) (bs.take (aY (bp bs)))).2=0
   rotate_left
   · rw [aX h2,ae];rw [hload,hdrop,AF.aU.load_raw hnf hrd hcut h2] at hQ;exact hQ _ (H16.ordT 2 [1,0])
   rw [h2,show (((0:Nat):Int)!=0)=false from rfl,ab];rw [IntWalk.i64_in _ (by omega),show ((i:Int)+1)=((i+1:Nat):Int) by omega];refine dI (by omega) hc (ax ac) ?_;have hr2:∀ h',aG F h'→cv h' (fG aa (i+1) ac 1) (mg (all.drop (i+1))):=fun h' H'=>n4 (hr h' H') hl hc (by omega);refine (rA (L:=L2.got n bs) hr2 (by rw [length_drop,hl]) (by omega) (fun m hm2=>hn m (mem_of_mem_drop hm2)) W2 (by omega) (H16.ordT 2 [1,0])).mono ?_;rintro v h13 ⟨rfl,H17⟩;rw [aL];rw [hload,hdrop,AF.aU.load_cut hnf hrd hcut h2] at hQ;exact hQ _ H17
set_option maxHeartbeats 1000000 in
theorem zn {ks:List ByteArray} {na:Option Addr} {nl nc:Nat} (hrn:∀ h',aG F h'→cv h' na (ks.map Value.string)) (hnl:ks.length=nl) (hm:nl≤4096) (hz:∀ s∈ks,s.size≤4000) (hup:ks.Pairwise fun a b=>AF.ji a b=true) (W:A.WF) (hs:A.steps+6000<1099511627776) (hfs:A.files.length+6000<1099511627776)
  (I:L.Fit 0) (hnew:L.parts=[]) (H:aG (eI r m L::bd m A::F) h) :
  aE prog 95 [aM r,.slice na nl nc] h fun v h'=>v=.int .i64 ((aU.load (bh ks) A L).2.2:Int)∧aG (eI r m (aU.load (bh ks) A L).2.1::bd m (aU.load (bh ks) A L).1::F) h':=by
 apply D4.ap
 unfold IA
 have hbu:=AF.kw hup
 refine ⟨fun st hh=>∃ (i:Nat) (a:Option Addr) (c:Nat),st=(⟨a,(bh (ks.take i)).length,c⟩,(i:Int))∧i≤nl∧aG (aQ 2 1 a (bh (ks.take i)).length c (mg (bh (ks.take i)))::eI r m L::bd m A::F) hh,
  fun st _=>((nl:Int) - st.2).toNat,⟨0,none,0,rfl,aw _,(bR 2 1 H:aG (aQ 2 1 none (bh (ks.take 0)).length 0 (mg (bh (ks.take 0)))::eI r m L::bd m A::F) h)⟩,?_⟩
 rintro st h1 ⟨i,a,c,rfl,hi,H1⟩
 dsimp only
 by_cases hil:i<nl
 rotate_left
 · have:i=nl:=by omega
   subst this;rw [af (by omega),ab];rw [av (by omega)] at H1 ⊢;have hbl:=AF.iq ks;have H2:aG (eI r m L::bd m A::aQ 2 1 a (bh ks).length c (mg (bh ks))::F) h1:=H1.ordT 3 [1,2,0];exact tu (r:=r) (m:=m) (L:=L) (A:=A) (k:=0) (F:=aQ 2 1 a (bh ks).length c (mg (bh ks))::F) (all:=bh ks) (aa:=a) (al:=(bh ks).length) (ac:=c)
    (Q:=fun v h'=>v=.int .i64 ((aU.load (bh ks) A L).2.2:Int)∧aG (eI r m (aU.load (bh ks) A L).2.1::bd m (aU.load (bh ks) A L).1::F) h')
    (fun h' H'=>aH H') rfl (dA H1).2.1 (by omega) (fun n hn=>(hbu.2 n hn).1) hbu.1 W hs hfs I (by omega) (fun n hn p hp=>by rw [hnew] at hp; cases hp) H2 (fun h' H'=>⟨rfl,H'.ordT 3 [0,1]⟩)
 rw [ah (show ((i:Int)<(nl:Int)) by omega),ae]
 obtain ⟨s,hs1⟩:∃ s,ks[i]? = some s:=⟨_,ai (by omega)⟩
 have hlen:(bh (ks.take i)).length≤4096:=Nat.le_trans (AF.iq _) (by rw [au]; omega)
 have hsl:=bE s
 have skip:∀ h2,fq s=none→aG (aQ 2 1 a (bh (ks.take i)).length c (mg (bh (ks.take i)))::eI r m L::bd m A::F) h2→∃ (j:Nat) (a':Option Addr) (c':Nat),
   ((⟨a,(bh (ks.take i)).length,c⟩,wrap .i64 ((i:Int)+1)):Sl×Int)=(⟨a',(bh (ks.take j)).length,c'⟩,(j:Int))∧j≤nl∧aG (aQ 2 1 a' (bh (ks.take j)).length c' (mg (bh (ks.take j)))::eI r m L::bd m A::F) h2:=fun h2 eb H2=>by
  have e:=iO hs1;rw [eb] at e;simp only [append_nil] at e;exact ⟨i+1,a,c,by rw [e,IntWalk.i64_in _ (by omega)]; rfl,by omega,by rw [e]; exact H2⟩
 have less:((nl:Int) - wrap .i64 ((i:Int)+1)).toNat<((nl:Int) - (i:Int)).toNat:=by rw [IntWalk.i64_in _ (by omega)]; omega
 have hrn1:=hrn h1 (H1.rest 3)
 refine dM hrn1 hnl hs1 fun b hb=>⟨_,hb,s,rfl,?_⟩
 dsimp only
 by_cases h18:s.size=18
 rotate_left
 · rw [show (((s.size:Nat):Int)==18)=false from by rw [beq_eq_false_iff_ne]; omega,ab];have eb:fq s=none:=by
    unfold fq;split
    · unfold Hex.dw;rw [am (by rw [length_drop,hsl]; omega)]
    · rfl
   exact ⟨skip h1 eb H1,less⟩
 rw [show (((s.size:Nat):Int)==18)=true from by rw [h18]; rfl,ae]
 refine dM hrn1 hnl hs1 fun b hb=>⟨_,hb,s,rfl,?_⟩
 dsimp only
 refine rm.of (u:=s.extract (0:Int).toNat (2:Int).toNat) ⟨by omega,by omega,by omega,rfl⟩ ?_
 have e2:dm (s.extract (0:Int).toNat (2:Int).toNat) ⟨#[115,46]⟩=decide ((sb s).take 2=[115,46]):=by
  rw [gg,dR]
  rfl
 rw [e2]
 by_cases hp:(sb s).take 2=[115,46]
 rotate_left
 · rw [af hp,ab];exact ⟨skip h1 (am hp) H1,less⟩
 rw [ah hp,ae]
 refine dM hrn1 hnl hs1 fun b hb=>⟨_,hb,s,rfl,?_⟩
 dsimp only
 refine rm.of (u:=s.extract (2:Int).toNat ((s.size:Nat):Int).toNat) ⟨by omega,by omega,by omega,rfl⟩ ?_
 have e3:sb (s.extract (2:Int).toNat ((s.size:Nat):Int).toNat)=(sb s).drop 2:=by
  rw [dR,Int.toNat_natCast];exact av (by rw [length_drop,hsl]; exact ax _)
 refine (xC (by rw [← bE,e3,length_drop,hsl]; omega) H1).mono ?_
 rintro v h3 ⟨rfl,H3⟩
 rw [e3]
 have eb:fq s=Hex.dw ((sb s).drop 2):=an hp
 refine ⟨_,_,rfl,?_⟩
 cases hu:Hex.dw ((sb s).drop 2) with
 | none=>
   simp only [Option.isSome_none,ab];rw [hu] at eb;exact ⟨skip h3 eb H3,less⟩
 | some n=>
   simp only [Option.isSome_some,ae];rw [hu] at eb;have e:=iO hs1;rw [eb] at e;simp only at e;refine vF (n:=n) rfl rfl (by omega) H3 fun a' c' h4 H4=>?_;rw [aI];exact ⟨⟨i+1,a',c',by rw [e,IntWalk.i64_in _ (by omega)]; rfl,by omega,by rw [e]; exact H4⟩,less⟩
def DZ (m:Nat) (q:AF.FS×Except Nat aU) (F:List aF) (v:Value) (h':Heap):Prop:=
 (∃ r L,q.2=.ok L∧v=.tuple #[aM r,.int .i64 0]∧aG (eI r m L::bd m q.1::F) h')∨
 (∃ e:Nat,q.2=.error e∧e≠0∧v=.tuple #[.pointer none,.int .i64 (e:Int)]∧aG (bd m q.1::F) h')
theorem zK {dir:ByteArray} {size:Int} (W:A.WF) (hs:A.steps+30000<1099511627776) (hfs:A.files.length+30000<1099511627776) (hd:dir.size<4611686018427387904) (H:aG (bd m A::F) h) :
  aE prog 44 [aM m,.string dir,.int .i64 size] h fun v h'=>DZ m (A.openL dir size) F v h':=by
 apply Ew.ap
 unfold I7
 by_cases h1:size<1
 · rw [ah h1,ae];have e:A.openL dir size=(A,.error 2):=by unfold AF.FS.openL; rw [an (.inl h1)]
   rw [e];exact .inr ⟨2,rfl,by decide,rfl,H⟩
 rw [af h1,ab]
 by_cases h2:16777216<size
 · rw [ah (show size>16777216 from h2),ae];have e:A.openL dir size=(A,.error 2):=by unfold AF.FS.openL; rw [an (.inr h2)]
   rw [e];exact .inr ⟨2,rfl,by decide,rfl,H⟩
 rw [af (show ¬ size>16777216 from h2),ab]
 have eo:A.openL dir size=match (A.prep dir).2 with
  | .error e=>((A.prep dir).1,.error e)
  | .ok ks=>AF.qB (A.prep dir).1 ⟨dir,size.toNat,[],0,0⟩ ks:=by
  unfold AF.FS.openL;rw [am (by omega)];cases (A.prep dir).2 <;> rfl
 obtain ⟨W1,G1⟩:=AF.qA dir W
 have g1:=G1.1
 have g1f:=G1.2
 refine (zo W (by omega) (by omega) H).mono ?_
 rintro v h3 (⟨ks,a,c,hk,rfl,H3⟩ | ⟨e,hk,e0,rfl,H3⟩)
 rotate_left
 · refine ⟨none,0,0,_,rfl,?_⟩;rw [aX e0,ae,eo,hk];exact .inr ⟨e,rfl,e0,rfl,H3⟩
 refine ⟨a,_,c,0,rfl,?_⟩
 rw [show ((0:Int)!=0)=false from rfl,ab]
 rw [hk] at eo
 dsimp only at eo
 have hup:=AF.rU W1 hk
 have hfew:=AF.td W1 hk
 have hright:=AF.uR W1 (AF.wG hk)
 refine aW H3 fun r h4 H4=>?_
 have H7:aG (eI r m ⟨dir,size.toNat,[],0,0⟩::bd m (A.prep dir).1::aQ 9 1 a ks.length c (ks.map Value.string)::F) h4:=by
  refine cK (a:=none) (c:=0) ?_;have:=(bR 168 3 H4).ordT 4 [1,0,3,2];have e:((size.toNat:Nat):Int)=size:=by omega
  unfold eJ;rw [e];exact this
 refine (zn (F:=aQ 9 1 a ks.length c (ks.map Value.string)::F) (fun h' H'=>aH H') rfl hfew (fun s hs2=>Nat.le_trans (AF.nj (hright s hs2)) (by decide)) hup W1 (by omega) (by omega) (AF.aU.fit0 hd (by omega) (by omega)) rfl H7).mono ?_
 rintro v h6 ⟨rfl,H8⟩
 have hbl:=AF.iq ks
 have hbu:=AF.kw hup
 obtain ⟨W2,G2,I2,e2⟩:=AF.n8 (bh ks) (A.prep dir).1 ⟨dir,size.toNat,[],0,0⟩ 0 W1 (AF.aU.fit0 hd (by omega) (by omega)) (by omega) hbu.1 (fun n hn p hp=>by cases hp)
 have g2:=G2.1
 unfold AF.qB at eo
 generalize aU.load (bh ks) (A.prep dir).1 ⟨dir,size.toNat,[],0,0⟩=q at W2 g2 I2 H8 eo ⊢
 rw [aL]
 by_cases h0:q.2.2=0
 rotate_left
 · rw [aX h0,ae];rw [an h0] at eo;rw [eo];exact .inr ⟨_,rfl,h0,rfl,H8.ordT 3 [1]⟩
 rw [h0,show (((0:Nat):Int)!=0)=false from rfl,ab]
 rw [am (fun hh=>hh h0)] at eo
 refine (pS W2 (by omega) I2.small H8).mono ?_
 rintro v h7 ⟨rfl,H9⟩
 rw [aL]
 by_cases h9:(q.2.1.sync q.1).2=0
 rotate_left
 · rw [aX h9,ae];rw [an h9] at eo;rw [eo];exact .inr ⟨_,rfl,h9,rfl,H9.ordT 3 [1]⟩
 rw [h9,show (((0:Nat):Int)!=0)=false from rfl,ab]
 rw [am (fun hh=>hh h9)] at eo
 rw [eo]
 rw [h9,AF.aU.synced,an rfl] at H9
 exact .inl ⟨r,_,rfl,rfl,H9.ordT 3 [0,1]⟩
end
end Go.Proofs.YtdpaiiibndnanaaGreatDoor
