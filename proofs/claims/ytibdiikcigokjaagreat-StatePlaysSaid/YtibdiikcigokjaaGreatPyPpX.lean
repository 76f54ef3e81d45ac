/- The document's store: its numbers,Open,a file's pairs (seat S). -/
import Derived.Test.YtibdiikcigokjaaGreatPyPmX
import Derived.Test.YtibdiikcigokjaaGreatPyPoX
namespace Go.Proofs.YtibdiikcigokjaaGreat
open Go.Builtin (append_)
open Go.IntKind (wrap)
open Go.Proofs.Tryz (prog)
open List (foldl_append length_drop append_assoc take_append_drop map_append getElem?_map map_take getElem?_take eq_nil_of_length_eq_zero cons_append take_length take_succ_cons mem_cons_self getElem_mem filter_append)
open Go Go.RowKit Go.MapKept
set_option linter.unusedVariables false
set_option linter.unusedSimpArgs false
open AF (cI kZ ln fY dF)
open TS (Ch gk Diffs dL VT dG cD)
open Hex (cE dp)
abbrev ou (D:List (Int×Unit)):List Value:=D.map fun p=>iv p.1
abbrev nC (m:Nat) (d:ByteArray) (a1:Option Addr) (l1 c1:Nat) (a2:Option Addr) (l2 c2:Nat):Array Value:=#[aJ m,.string d,.slice a1 l1 c1,.slice a2 l2 c2]
def be (r m:Nat) (S:eT):aG:=pS fun q:(Option Addr×Nat)×(Option Addr×Nat)=>dh [pt r (.cells (nC m S.dir q.1.1 S.D.length q.1.2 q.2.1 S.N.length q.2.2) 78 (0,0)),aL 2 1 q.1.1 S.D.length q.1.2 (ou S.D),aL 2 1 q.2.1 S.N.length q.2.2 (ou S.N)]
theorem OX:prog.underlying 76=some (.slice 2):=by kernel_rfl
theorem Kx:fF prog 76=true:=by kernel_rfl
section
variable {F:List aG} {h:Heap} {r m:Nat} {S:eT} {A:AF.FS}
theorem dS (H:aD (be r m S::F) h):∃ a1 c1 a2 c2,aD (pt r (.cells (nC m S.dir a1 S.D.length c1 a2 S.N.length c2) 78 (0,0))::aL 2 1 a1 S.D.length c1 (ou S.D)::aL 2 1 a2 S.N.length c2 (ou S.N)::F) h:=by
 obtain ⟨⟨⟨a1,c1⟩,⟨a2,c2⟩⟩,H2⟩:=bw.1 H
 exact ⟨a1,c1,a2,c2,H2.open⟩
theorem cU {a1 a2:Option Addr} {c1 c2:Nat} (H:aD (pt r (.cells (nC m S.dir a1 S.D.length c1 a2 S.N.length c2) 78 (0,0))::aL 2 1 a1 S.D.length c1 (ou S.D)::aL 2 1 a2 S.N.length c2 (ou S.N)::F) h):aD (be r m S::F) h:=
 bw.2 ⟨((a1,c1),(a2,c2)),aD.shut (m:=[_,_,_]) H⟩
theorem Fb {D:List (Int×Unit)} {i:Nat} {p:Int×Unit} (h:D[i]? = some p):(ou D)[i]? = some (iv p.1):=by rw [getElem?_map,h]; rfl
theorem fT {hh:Heap} {a:Option Addr} {D:List (Int×Unit)} {l i:Nat} {p:Int×Unit} {K:Int→Prop} (hr:dw hh a (ou D)) (hl:D.length=l) (hp:D[i]? = some p) (hK:K p.1):aM a l (i:Int) 1 fun b=>Ld hh b fun v=>DI .i64 v K:=by
 have h1:=Fb hp
 have h2:(ou D).length=l:=by rw [← hl]; exact an _
 exact cm hr h2 h1 fun b _ hc=>⟨iv p.1,hc,p.1,rfl,hK⟩
theorem iS {a:Option Addr} {c l:Nat} {D:List (Int×Unit)} {v:Int} {K:Value→Heap→Prop} (hl:D.length=l) (hb:l<1000000000) (H:aD (aL 2 1 a l c (ou D)::F) h)
  (hK:∀ a' c' h',aD (aL 2 1 a' (D++[(v,())]).length c' (ou (D++[(v,())]))::F) h'→K (.slice a' (D++[(v,())]).length c') h') :
  Al h (.cells #[.int .i64 v] 2) fun b0 h1=>bi prog (append_ #[76,76] 76 #[.slice a l c,.slice (some (Addr.mk b0 0 none)) 1 1]) h1 K:=by
 subst hl
 refine aQ H fun b0 h1 H1=>?_
 refine jH OX Kx KZ (H1.mv 1) (n:=1) (ys:=[iv v]) (bV (lm H1 rfl) rfl) (by intro u hu; simp at hu; subst hu; rfl) (by omega) fun a' c' h2 _ H2=>?_
 have e1:ou D++[iv v]=ou (D++[(v,())]):=by unfold ou; rw [map_append]; rfl
 have e2:D.length+1=(D++[(v,())]).length:=by rw [am]; rfl
 rw [e1,e2] at H2
 rw [e2]
 exact hK a' c' h2 (H2.ordT 2 [0])
theorem ri {a:Option Addr} {l c:Nat} {D:List (Int×Unit)} {v:Int} (hr:dw h a (ou D)) (hl:D.length=l) (hll:l<1000000000) :
  aC prog 73 [.slice a l c,.int .i64 v] h fun r h'=>h'=h∧r=.bool (decide ((v,())∈D)):=by
 apply I7.ap
 unfold NU
 refine aU.upto l (fun i (s:Int) h'=>s=(i:Int)∧i≤l∧h'=h∧∀ p∈D.take i,p.1≠v) (fun s=>l - s.toNat) (fun i s h' hh=>⟨hh.2.1,by rw [hh.1]; omega⟩) ⟨rfl,au _,rfl,by simp⟩ ?_ ?_
 · rintro i s h2 again hi ⟨rfl,_,rfl,hno⟩ go;rw [af (show ((i:Int)<(l:Int)) by omega),ab];obtain ⟨p,hp⟩:∃ p,D[i]? = some p:=⟨_,ah (by omega)⟩
   refine fT hr hl hp ?_;by_cases e:p.1=v
   · rw [li e,ab];refine ⟨rfl,?_⟩;have:(v,())∈D:=by
      have:=ai hp;obtain ⟨x,⟨⟩⟩:=p;rw [← e];exact this
     rw [af this]
   · rw [jq e,aa,aH (by omega)];refine go _ _ ⟨rfl,by omega,rfl,fun q hq=>?_⟩;rw [ax,hp] at hq
     rcases List.mem_append.1 hq with hq | hq
     · exact hno q hq
     · simp at hq;rw [hq];exact e
 · rintro s h2 again ⟨rfl,_,rfl,hno⟩;rw [ae (by omega),aa];rw [ar (by omega)] at hno;refine ⟨rfl,?_⟩;rw [ae (fun hm=>hno _ hm rfl)]
theorem qD (l:List Int) (x v:Int):dI (l++[x]) v=if x≤v then max (dI l v) x else dI l v:=by
 unfold dI
 rw [filter_append,foldl_append]
 by_cases hx:x≤v
 · rw [al hx];simp [hx]
 · rw [ak hx];simp [hx]
theorem wX {v:Int} (O:mH S) (hN:S.N.length<1000000000) (H:aD (be r m S::F) h):aC prog 72 [aJ r,.int .i64 v] h fun x h'=>h'=h∧x=.int .i64 (dI (S.N.map (·.1)) v):=by
 obtain ⟨a1,c1,a2,c2,H1⟩:=dS H
 apply I8.ap
 unfold NV
 refine aU.upto S.N.length (fun i (s:Int×Int) h'=>s.2=(i:Int)∧i≤S.N.length∧h'=h∧s.1=dI ((S.N.take i).map (·.1)) v∧∀ p,S.N[i]? = some p→s.1<p.1) (fun s=>S.N.length - s.2.toNat) (fun i s h' hh=>⟨hh.2.1,by rw [hh.1]; omega⟩) ⟨rfl,au _,rfl,rfl,fun p hp=>(by have:=(O.okN p (ai hp)).1; dsimp only; omega)⟩ ?_ ?_
 · rintro i ⟨s1,s2⟩ h2 again hi ⟨rfl,_,rfl,rfl,hlt⟩ go;dsimp only at hlt ⊢;rw [aY];refine bJ H1 rfl ?_;rw [af (show ((i:Int)<(S.N.length:Int)) by omega),ab,aY];refine bJ H1 rfl ?_;obtain ⟨p,hp⟩:∃ p,S.N[i]? = some p:=⟨_,ah hi⟩
   have hrd:=aI (H1.mv 2);refine fT hrd rfl hp ?_;have hw:wrap .i64 ((i:Int)+1)=((i+1:Nat):Int):=aH (by omega);rw [hw];have htk:(S.N.take (i+1)).map (·.1)=(S.N.take i).map (·.1)++[p.1]:=by rw [ax,hp,map_append]; rfl
   have hnext:∀ q,S.N[i+1]? = some q→p.1<q.1:=fun q hq=>by
    obtain ⟨b1,e1⟩:=aj.1 hp;obtain ⟨b2,e2⟩:=aj.1 hq;have:=List.pairwise_iff_getElem.1 O.upN i (i+1) b1 b2 (by omega);rw [e1,e2] at this;exact this
   have h0:=hlt p hp;by_cases hle:p.1≤v
   · rw [af hle,ab,aY];refine bJ H1 rfl ?_;refine fT hrd rfl hp ?_;refine go _ _ ⟨rfl,by omega,rfl,?_,fun q hq=>hnext q hq⟩;rw [htk,qD,al hle];dsimp only;omega
   · rw [ae hle,aa];refine go _ _ ⟨rfl,by omega,rfl,?_,fun q hq=>?_⟩
     · rw [htk,qD,ak hle]
     · have:=hnext q hq;dsimp only;omega
 · rintro ⟨s1,s2⟩ h2 again ⟨rfl,_,rfl,rfl,_⟩;dsimp only;rw [aY];refine bJ H1 rfl ?_;rw [ae (by omega),aa,take_length];exact ⟨rfl,rfl⟩
theorem vv {v:Int}:∀ {D:List (Int×Unit)},xr D→(v,())∈D→eI v () D=D
 | [],_,h=>by cases h
 | p::D,hu,h=>by
   unfold eI
   rcases ay.1 h with e | h
   · rw [← e,al rfl]
   · have h1:=(List.pairwise_cons.1 hu).1 _ h;simp only at h1;rw [ak (by omega),ak (by omega),vv (List.pairwise_cons.1 hu).2 h]
theorem vw {v:Int} {x:Int×Unit}:∀ {D:List (Int×Unit)},(∃ p∈D,v<p.1)→eI v () (D++[x])=eI v () D++[x]
 | [],h=>by obtain ⟨p,hp,_⟩:=h; cases hp
 | p::D,h=>by
   rw [cons_append];unfold eI;by_cases e:p.1=v
   · rw [al e,al e]
     rfl
   · rw [ak e,ak e];by_cases hlt:v<p.1
     · rw [al hlt,al hlt]
       rfl
     · rw [ak hlt,ak hlt];obtain ⟨q,hq,hqv⟩:=h
       rcases ay.1 hq with rfl | hq
       · exact absurd hqv hlt
       · rw [vw ⟨q,hq,hqv⟩]
         rfl
set_option maxHeartbeats 2000000 in
theorem wY {a:Option Addr} {c:Nat} {D:List (Int×Unit)} {v:Int} (hu:xr D) (hll:D.length<100000000) (H:aD (aL 2 1 a D.length c (ou D)::F) h) :
  aC prog 71 [.slice a D.length c,.int .i64 v] h fun x h'=>∃ a' c',x=.slice a' (eI v () D).length c'∧aD (aL 2 1 a' (eI v () D).length c' (ou (eI v () D))::F) h':=by
 apply I9.ap
 unfold NW
 refine (ri (v:=v) (aI H) rfl (by omega)).mono ?_
 rintro x h1 ⟨rfl,rfl⟩
 rw [bE]
 by_cases hm:(v,())∈D
 · rw [af hm,ab,vv hu hm];exact ⟨a,c,rfl,H⟩
 rw [ae hm,aa]
 have hne:∀ p∈D,p.1≠v:=fun p hp e=>hm (by obtain ⟨x,⟨⟩⟩:=p; rw [← e]; exact hp)
 refine aU.upto D.length (fun i (s:Sl×Bool×Int) h'=>s.2.2=(i:Int)∧i≤D.length∧((s.2.1=false∧(∀ p∈D.take i,p.1<v)∧s.1.l=(D.take i).length∧aD (aL 2 1 s.1.a (D.take i).length s.1.c (ou (D.take i))::aL 2 1 a D.length c (ou D)::F) h')∨
   (s.2.1=true∧(∃ p∈D.take i,v<p.1)∧s.1.l=(eI v () (D.take i)).length∧aD (aL 2 1 s.1.a (eI v () (D.take i)).length s.1.c (ou (eI v () (D.take i)))::aL 2 1 a D.length c (ou D)::F) h'))) (fun s=>D.length - s.2.2.toNat) (fun i s h' hh=>⟨hh.2.1,by rw [hh.1]; omega⟩)
  ⟨rfl,au _,.inl ⟨rfl,by simp,rfl,bG 2 1 H⟩⟩ ?_ ?_
 · rintro i ⟨⟨oa,ol,oc⟩,dn,s3⟩ h2 again hi ⟨rfl,_,hcase⟩ go;dsimp only at hcase ⊢;rw [af (show ((i:Int)<(D.length:Int)) by omega),ab];obtain ⟨p,hp⟩:∃ p,D[i]? = some p:=⟨_,ah hi⟩
   have hpe:[(p.1,())]=[p]:=by obtain ⟨x,⟨⟩⟩:=p; rfl
   have htk:D.take (i+1)=D.take i++[p]:=by rw [ax,hp]; rfl
   have hw:wrap .i64 ((i:Int)+1)=((i+1:Nat):Int):=aH (by omega);have htl:(D.take i).length≤i:=by rw [aq]; omega
   rw [hw]
   rcases hcase with ⟨rfl,hall,rfl,K⟩ | ⟨rfl,hex,rfl,K⟩
   · rw [aA,ab];refine fT (aI (K.mv 1)) rfl hp ?_;by_cases hgt:v<p.1
     · rw [af (show p.1>v from hgt),ab];refine iS rfl (by omega) K fun a2 c2 h3 K2=>?_;rw [aF];refine fT (aI (K2.mv 1)) rfl hp ?_;refine iS rfl (by rw [am]; simp; omega) K2 fun a3 c3 h4 K3=>?_;rw [aF];have e:eI v () (D.take (i+1))=D.take i++[(v,())]++[(p.1,())]:=by
        have e1:eI v () (D.take i++[p])=D.take i++eI v () [p]:=by
         clear htk K K2 K3;revert hall;generalize D.take i=E;intro hall
         induction E with
         | nil=>rfl
         | cons q E ih=>
           have hq:=hall q (mem_cons_self ..);rw [cons_append]
           conv=>lhs; unfold eI
           rw [ak (by omega),ak (by omega),ih (fun x hx=>hall x (aB _ hx))]
           rfl
        rw [htk,e1,hpe,append_assoc];unfold eI;rw [ak (by omega),al hgt]
        rfl
       refine go _ _ ⟨rfl,by omega,.inr ⟨rfl,⟨p,by rw [htk]; simp,hgt⟩,?_,?_⟩⟩
       · rw [e]
       · rw [e];exact K3
     · rw [ae (show ¬ p.1>v from hgt),aa];refine fT (aI (K.mv 1)) rfl hp ?_;refine iS rfl (by omega) K fun a2 c2 h3 K2=>?_;rw [aF];have e:D.take (i+1)=D.take i++[(p.1,())]:=by rw [htk,hpe]
       refine go _ _ ⟨rfl,by omega,.inl ⟨rfl,fun q hq=>?_,?_,?_⟩⟩
       · rw [htk] at hq
         rcases List.mem_append.1 hq with hq | hq
         · exact hall q hq
         · rw [List.mem_singleton.1 hq];have:=hne p (ai hp);omega
       · rw [e]
       · rw [e];exact K2
   · rw [az,aa];refine fT (aI (K.mv 1)) rfl hp ?_;have hsl:(eI v () (D.take i)).length≤(D.take i).length+1:=by
      clear K hex htk;generalize D.take i=E
      induction E with
      | nil=>simp [eI]
      | cons q E ih=>
        unfold eI;split
        · simp
        · split
          · simp
          · simp only [ao];omega
     refine iS rfl (by omega) K fun a2 c2 h3 K2=>?_;rw [aF];have e:eI v () (D.take (i+1))=eI v () (D.take i)++[(p.1,())]:=by rw [htk,vw hex,hpe]
     refine go _ _ ⟨rfl,by omega,.inr ⟨rfl,?_,?_,?_⟩⟩
     · obtain ⟨q,hq,hqv⟩:=hex;exact ⟨q,by rw [htk]; exact List.mem_append_left _ hq,hqv⟩
     · rw [e]
     · rw [e];exact K2
 · rintro ⟨⟨oa,ol,oc⟩,dn,s3⟩ h2 again ⟨rfl,_,hcase⟩;dsimp only at hcase ⊢;rw [ae (by omega),aa];rw [take_length] at hcase
   rcases hcase with ⟨rfl,hall,rfl,K⟩ | ⟨rfl,hex,rfl,K⟩
   · rw [aA,ab];refine iS rfl (by omega) K fun a2 c2 h3 K2=>?_;rw [aF];rw [oA hall];exact ⟨a2,c2,rfl,K2.ordT 2 [0]⟩
   · rw [az,aa];exact ⟨oa,oc,rfl,K.ordT 2 [0]⟩
end
def Hz (s0:Option Addr) (v0 at_0:Int) (t_a:Option Addr) (t_l t_c:Nat) (h_1:Heap) (Q:Value→Heap→Prop):Prop:=
 aU (fun again5 (s12:Sl×Int) h_17=>
  (bif decide ((s12.2:Int)≤v0) then
   aC prog 70 [.int .i64 s12.2] h_17 fun r10 h_18=>
   DS r10 fun x24=>
   (⟨#[100,46]⟩:ByteArray).size+(x24:ByteArray).size≤9223372036854775807∧
   aC prog 74 [.pointer s0,.string (⟨#[100,46]⟩++x24)] h_18 fun r11 h_19=>
   ∃ (x25a:Option Addr),∃ (x25l:Nat),∃ (x25c:Nat),∃ (x26:Int),r11=.tuple #[.slice x25a x25l x25c,.int .i64 x26]∧
   (bif (x26:Int)!=0 then
    Q (.tuple #[.slice none 0 0,.int .i64 x26]) h_19
   else
    aU (fun again6 (s13:Int) h_20=>
     (bif decide ((s13:Int)<(x25l:Int)) then
      aM x25a x25l s13 2 fun a10=>
      Ld h_20 (a10.add 0) fun c2=>
      Ld h_20 (a10.add 1) fun c3=>
      ∃ (x27:ByteArray),∃ (x28:ByteArray),(Value.agg #[c2,c3])=.agg #[.string x27,.string x28]∧
      Al h_20 (.cells #[.string .empty,.string .empty] 50) fun b1 h_21=>
      bI h_21 ((Addr.mk b1 0 none).add 0) (.string x27) fun h_23=>
      bI h_23 ((Addr.mk b1 0 none).add 1) (.string x28) fun h_24=>
      Ld h_24 ((Addr.mk b1 0 none).add 0) fun v16=>DS v16 fun x29=>
      (bif (((x29:ByteArray).size:Int):Int)==0 then
       Q (.tuple #[.slice none 0 0,.int .i64 181]) h_24
      else
       Ld h_24 ((Addr.mk b1 0 none).add 0) fun v17=>DS v17 fun x30=>
       0≤(0:Int)∧(0:Int)<((x30:ByteArray).size:Int)∧
       (bif ((bt x30 0):Int)!=43 then
        Ld h_24 ((Addr.mk b1 0 none).add 0) fun v18=>DS v18 fun x31=>
        0≤(0:Int)∧(0:Int)<((x31:ByteArray).size:Int)∧
        (bif ((bt x31 0):Int)!=45 then
         Q (.tuple #[.slice none 0 0,.int .i64 181]) h_24
        else
         Ld h_24 ((Addr.mk b1 0 none).add 1) fun v19=>DS v19 fun x32=>
         (bif !bL x32 .empty then
          Q (.tuple #[.slice none 0 0,.int .i64 181]) h_24
         else
          (bif decide ((s13:Int)>0) then
           aM x25a x25l (wrap .i64 (s13 - 1)) 2 fun a11=>
           Ld h_24 (a11.add 0) fun v20=>DS v20 fun x33=>
           ju x33 1 ((x33:ByteArray).size:Int) fun s14=>
           Ld h_24 ((Addr.mk b1 0 none).add 0) fun v21=>DS v21 fun x34=>
           ju x34 1 ((x34:ByteArray).size:Int) fun s15=>
           (bif !dC s14 s15 then
            Q (.tuple #[.slice none 0 0,.int .i64 181]) h_24
           else
            again6 (wrap .i64 (s13+1)) h_24)
          else
           again6 (wrap .i64 (s13+1)) h_24)))
       else
        (bif decide ((s13:Int)>0) then
         aM x25a x25l (wrap .i64 (s13 - 1)) 2 fun a12=>
         Ld h_24 (a12.add 0) fun v22=>DS v22 fun x35=>
         ju x35 1 ((x35:ByteArray).size:Int) fun s16=>
         Ld h_24 ((Addr.mk b1 0 none).add 0) fun v23=>DS v23 fun x36=>
         ju x36 1 ((x36:ByteArray).size:Int) fun s17=>
         (bif !dC s16 s17 then
          Q (.tuple #[.slice none 0 0,.int .i64 181]) h_24
         else
          again6 (wrap .i64 (s13+1)) h_24)
        else
         again6 (wrap .i64 (s13+1)) h_24)))
     else
      aU (fun again7 (s18:Sl×Int) h_25=>
       (bif decide ((s18.2:Int)<(x25l:Int)) then
        aM x25a x25l s18.2 2 fun a13=>
        Ld h_25 (a13.add 0) fun v24=>DS v24 fun x37=>
        0≤(0:Int)∧(0:Int)<((x37:ByteArray).size:Int)∧
        (bif ((bt x37 0):Int)==43 then
         aM x25a x25l s18.2 2 fun a14=>
         Ld h_25 (a14.add 0) fun v25=>DS v25 fun x38=>
         ju x38 1 ((x38:ByteArray).size:Int) fun s19=>
         aM x25a x25l s18.2 2 fun a15=>
         Ld h_25 (a15.add 1) fun v26=>DS v26 fun x39=>
         aC prog 54 [.slice s18.1.a s18.1.l s18.1.c,.string s19,.string x39] h_25 fun r14 h_26=>
         aX r14 fun t2a t2l t2c=>
         again7 (⟨t2a,t2l,t2c⟩,wrap .i64 (s18.2+1)) h_26
        else
         aM x25a x25l s18.2 2 fun a16=>
         Ld h_25 (a16.add 0) fun v27=>DS v27 fun x40=>
         ju x40 1 ((x40:ByteArray).size:Int) fun s20=>
         aC prog 75 [.slice s18.1.a s18.1.l s18.1.c,.string s20] h_25 fun r15 h_27=>
         aX r15 fun t3a t3l t3c=>
         again7 (⟨t3a,t3l,t3c⟩,wrap .i64 (s18.2+1)) h_27)
       else
        again5 (⟨s18.1.a,s18.1.l,s18.1.c⟩,wrap .i64 (s12.2+1)) h_25)) (⟨s12.1.a,s12.1.l,s12.1.c⟩,0) h_20)) 0 h_19)
  else
   Q (.tuple #[.slice s12.1.a s12.1.l s12.1.c,.int .i64 0]) h_17)) (⟨t_a,t_l,t_c⟩,wrap .i64 (at_0+1)) h_1
namespace AF
theorem entry_err {A:FS} {dir name:ByteArray} {e:Nat} (h:A.entry dir name=.error e):e=60∨e=61∨e=62∨e=65:=by
 unfold FS.entry FS.ready FS.named at h
 split at h
 · rename_i e2 he;split at he
   · cases he; cases h; exact .inl rfl
   · split at he
     · split at he
       · cases he
       · cases he; cases h; exact .inr (.inl rfl)
     · cases he; cases h; exact .inr (.inr (.inr rfl))
 · split at h
   · cases h
   · cases h; exact .inr (.inr (.inl rfl))
theorem Ff {A:FS} {dir name:ByteArray} {e:Nat} (h:A.get dir name=.error e):e≠0:=by
 unfold FS.get FS.read at h
 split at h
 · rename_i e2 he;cases h;split at he
   · rename_i e3 he3;cases he
     rcases entry_err he3 with h | h | h | h <;> omega
   · cases he
 · split at h
   · split at h
     · cases h
     · cases h; decide
   · cases h; decide
theorem yf {A:FS} (W:A.WF) {dir name:ByteArray} {i x:Nat} (h:A.entry dir name=.ok (i,x)):(A.X x).b.length≤16777216∧B8 (A.X x).b:=by
 obtain ⟨h1,h2⟩:=lJ h
 obtain ⟨_,_,_,_,d,hd,_⟩:=dH h1
 rw [jp hd] at h2
 have hx:=((W.each d (ai hd)).ok.each _ (jL h2)).1
 have:=W.files _ (getElem_mem hx)
 rw [re (ah hx)]
 exact this.2
theorem IE {A:FS} (W:A.WF) {dir name:ByteArray} {bs:List Nat} (h:A.get dir name=.ok bs):B8 bs∧bs.length≤16777216:=by
 unfold FS.get FS.read at h
 split at h
 · cases h
 · rename_i b hb;split at hb
   · cases hb
   · rename_i i x he;cases hb;have hf:=(yf W he).2;split at h
     · rename_i y hy;split at h
       · cases h;obtain ⟨_,h2,_,_,_,h6⟩:=Frame.jD hf hy;exact ⟨h6,by omega⟩
       · cases h
     · cases h
theorem xX {dir:ByteArray} {A:FS} (W:A.WF) {ks:List ByteArray} (h:A.list dir=.ok ks):∀ s∈ks,right s=true:=by
 unfold FS.list at h
 cases hr:A.ready dir [] with
 | error e=>rw [hr] at h; cases h
 | ok i=>
   rw [hr] at h;obtain ⟨_,_,_,_,d,hd,_⟩:=dH hr;simp only [Except.ok.injEq] at h;rw [← h,jp hd];intro s hs;obtain ⟨p,hp,rfl⟩:=List.mem_map.1 hs;exact ((W.each d (ai hd)).ok.each p hp).2
theorem sh {dir:ByteArray} {A:FS} {ks:List ByteArray} (h:(A.prep dir).2=.ok ks):(A.prep dir).1.list dir=.ok ks:=by
 have tidy:∀ B:FS,(B.tidy dir).2=.ok ks→(B.tidy dir).1.list dir=.ok ks:=fun B hB=>by
  unfold FS.tidy at hB ⊢;split at hB
  · cases hB
  · exact hB
 unfold FS.prep at h ⊢
 split at h
 · split at h
   · rename_i hm;rw [al hm];exact tidy _ h
   · cases h
 · exact tidy _ h
theorem vD {s:ByteArray} (h:right s=true):s.size≤32:=by
 unfold right at h
 simp only [aw,decide_eq_true_eq] at h
 exact h.1.2
end AF
theorem Ct (n:Int):(⟨#[100,46]⟩:ByteArray)++cn (cE 16 (ff n))=cI 100 n:=by
 rw [show (⟨#[100,46]⟩:ByteArray)=cn [100,46] from by decide]
 rfl
theorem Cs (n:Int):(⟨#[110,46]⟩:ByteArray)++cn (cE 16 (ff n))=cI 110 n:=by
 rw [show (⟨#[110,46]⟩:ByteArray)=cn [110,46] from by decide]
 rfl
theorem nM {c:ByteArray} {n:Int} (h:c.size=2):c.size+(cn (cE 16 (ff n))).size≤9223372036854775807:=by
 rw [h,j8,Hex.eL]
 decide
theorem ju.of {s:ByteArray} {lo hi:Int} {u:ByteArray} {K:ByteArray→Prop} (h:ju s lo hi fun t=>t=u) (hK:K u):ju s lo hi K:=by
 obtain ⟨h1,h2,h3,h4⟩:=h
 exact ⟨h1,h2,h3,by rw [h4]; exact hK⟩
theorem q9:∀ {ps:gX} {D:List Ch} (i:Nat),fI ps=some D→fI (ps.take i)=some (D.take i)
 | [],D,i,h=>by cases h; simp [fI]
 | p::l,D,0,h=>by simp [fI]
 | p::l,D,i+1,h=>by
   unfold fI at h;split at h
   · cases h
   · rename_i x hx;split at h
     · cases h
     · rename_i e he;cases h;rw [take_succ_cons,take_succ_cons];unfold fI;rw [hx];simp only [];rw [q9 i he]
theorem uE {ps:gX} {d:List Ch} {i:Nat} (h:fI (ps.take i)=some d) (hu:mK (d.map fun x=>x.1)=false):dv ps=none:=by
 unfold dv
 split
 · rfl
 · rename_i D hD;have:=q9 i hD;rw [h] at this;cases this;rw [ak];intro hh;have h2:=vb hh i;rw [← map_take] at h2;rw [h2] at hu;cases hu
section
variable {F:List aG} {h:Heap} {r m:Nat} {S:eT} {A:AF.FS} {dir:ByteArray}
theorem wW {name:ByteArray} (W:A.WF) (H:aD (be r m S::bg m A::F) h) :
  aC prog 74 [aJ r,.string name] h fun v h'=>(∃ ps a c,gA A S.dir name=.ok ps∧v=.tuple #[.slice a ps.length c,.int .i64 0]∧aD (aL 50 2 a ps.length c (ps.flatMap pairC)::be r m S::bg m A::F) h')∨
   (∃ e:Nat,gA A S.dir name=.error e∧e≠0∧v=.tuple #[.slice none 0 0,.int .i64 (e:Int)]∧aD (be r m S::bg m A::F) h'):=by
 obtain ⟨a1,c1,a2,c2,H1⟩:=dS H
 apply I6.ap
 unfold NT
 rw [aY]
 refine mu (x:=m) H1 rfl ?_
 rw [aY]
 refine bu (x:=S.dir) H1 rfl ?_
 refine (Bm (name:=name) W (H1.mv 3)).mono ?_
 rintro v h1 ⟨rfl,H2⟩
 have H3:aD (be r m S::bg m A::F) h1:=cU (H2.ordT 4 [1,2,3,0])
 unfold gA
 cases hg:A.get S.dir name with
 | error e=>
   have e0:=AF.Ff hg;refine ⟨.empty,(e:Int),rfl,?_⟩;rw [bm e0,ab];exact .inr ⟨e,rfl,e0,rfl,H3⟩
 | ok bs=>
   obtain ⟨h8,hl⟩:=AF.IE W hg;refine ⟨cn bs,0,rfl,?_⟩;rw [show ((0:Int)!=0)=false from rfl,aa];refine (Bl (s:=cn bs) (by rw [j8]; omega) H3).mono ?_;rw [show MR (cn bs)=MR (cn bs) from rfl];rintro v h2 (⟨ps,a,c,hu,rfl,H4⟩ | ⟨hu,rfl,H4⟩)
   · rw [bR h8] at hu;refine ⟨a,ps.length,c,true,rfl,?_⟩;rw [az,aa];exact .inl ⟨ps,a,c,by simp only []; rw [hu],rfl,H4⟩
   · rw [bR h8] at hu;refine ⟨none,0,0,false,rfl,?_⟩;rw [aA,ab];exact .inr ⟨181,by simp only []; rw [hu],by decide,rfl,H4⟩
def IU (m:Nat) (dir:ByteArray) (q:AF.FS×Except Nat (List ByteArray)) (F:List aG) (v:Value) (h':Heap):Prop:=
 (∃ r D N ks,q.2=.ok ks∧v=.tuple #[aJ r,.int .i64 0]∧fg D 100 ks∧fg N 110 ks∧aD (be r m ⟨dir,D,N⟩::bg m q.1::F) h')∨
 (∃ e:Nat,q.2=.error e∧e≠0∧v=.tuple #[.pointer none,.int .i64 (e:Int)]∧aD (bg m q.1::F) h')
theorem E5 {c:Nat} (hc:c<256) {a b:Int} (ha:nh a) (hb:nh b) (h:dF (cI c a) (cI c b)=true):a<b:=by
 obtain ⟨a1,a2⟩:=i2 ha.id
 obtain ⟨b1,b2⟩:=i2 hb.id
 have:=AF.Fnm.KJ (c:=c) hc (nN a) (nN b)
 have h2:decide (ff a<ff b)=true:=by rw [← this]; exact h
 have h3:=of_decide_eq_true h2
 omega
theorem fg.last {D:List (Int×Unit)} {cc:Nat} (hc:cc<256) {ks:List ByteArray} (hks:ks.Pairwise fun a b=>dF a b=true) {i:Nat} {n:Int} (hI:fg D cc (ks.take i)) (hn:nh n) (hs:ks[i]? = some (cI cc n)):eI n () D=D++[(n,())]:=by
 refine oA fun p hp=>?_
 have hm:(p.1,())∈D:=by obtain ⟨v,⟨⟩⟩:=p; exact hp
 obtain ⟨h1,h2⟩:=(hI.2 p.1).1 hm
 obtain ⟨j,hj⟩:=List.mem_iff_getElem?.1 h2
 rw [getElem?_take] at hj
 split at hj
 · rename_i hji;obtain ⟨b1,e1⟩:=aj.1 hj;obtain ⟨b2,e2⟩:=aj.1 hs;have:=List.pairwise_iff_getElem.1 hks j i b1 b2 hji;rw [e1,e2] at this;exact E5 hc h1 hn this
 · cases hj
set_option maxHeartbeats 4000000 in
theorem oq (W:A.WF) (W2:(A.prep dir).1.WF) (hs:A.steps+20000<1099511627776) (hm:A.files.length+20000<1099511627776) (H:aD (bg m A::F) h) :
  aC prog 24 [aJ m,.string dir] h (IU m dir (A.prep dir) F):=by
 apply JK.ap
 unfold OA
 refine (Dl W hs hm H).mono ?_
 rintro v h5 (⟨ks,a,cc,hk',rfl,H5⟩ | ⟨e,hk',e0,rfl,H5⟩)
 rotate_left
 · refine ⟨none,0,0,(e:Int),rfl,?_⟩;rw [bm e0,ab];exact .inr ⟨e,hk',e0,rfl,H5⟩
 have hup:=AF.EV W2 hk'
 have hright:=AF.xX W2 (AF.sh hk')
 have hlen:=AF.nR W2 (AF.sh hk')
 refine ⟨a,ks.length,cc,0,rfl,?_⟩
 rw [show ((0:Int)!=0)=false from rfl,aa]
 refine aQ H5 fun b0 h6 H6=>?_
 generalize hB:(A.prep dir).1=B at *
 have start:aD (be b0 m ⟨dir,[],[]⟩::aL 9 1 a ks.length cc (ks.map Value.string)::bg m B::F) h6:=
  cU (S:=⟨dir,[],[]⟩) (a1:=none) (c1:=0) (a2:=none) (c2:=0) ((bG 2 1 (bG 2 1 H6)).ordT 3 [2,0,1])
 refine aU.upto ks.length (fun i (s0:Int) h'=>s0=(i:Int)∧i≤ks.length∧∃ D N,fg D 100 (ks.take i)∧fg N 110 (ks.take i)∧aD (be b0 m ⟨dir,D,N⟩::aL 9 1 a ks.length cc (ks.map Value.string)::bg m B::F) h') (fun s0=>ks.length - s0.toNat) (fun i s0 h' hh=>⟨hh.2.1,by rw [hh.1]; omega⟩)
  ⟨rfl,au _,[],[],⟨List.Pairwise.nil,fun v=>by simp⟩,⟨List.Pairwise.nil,fun v=>by simp⟩,start⟩ ?_ ?_
 · rintro i s0 h' again hi ⟨rfl,_,D,N,iD,iN,K⟩ go;rw [af (show ((i:Int)<(ks.length:Int)) by omega),ab];obtain ⟨s,hsi⟩:∃ s,ks[i]? = some s:=⟨_,ah hi⟩
   have hsr:=AF.vD (hright s (ai hsi));have htk:ks.take (i+1)=ks.take i++[s]:=by rw [ax,hsi]; rfl
   have hw:wrap .i64 ((i:Int)+1)=((i+1:Nat):Int):=aH (by omega);rw [hw];have hDl:=iD.len (by decide);have hNl:=iN.len (by decide);rw [aq] at hDl hNl;have skip:∀ {h':Heap},(∀ v,nh v→cI 100 v≠s)→(∀ v,nh v→cI 110 v≠s)→aD (be b0 m ⟨dir,D,N⟩::aL 9 1 a ks.length cc (ks.map Value.string)::bg m B::F) h'→again ((i+1:Nat):Int) h':=fun h1 h2 K'=>
    go _ _ ⟨rfl,by omega,D,N,by rw [htk]; exact iD.not h1,by rw [htk]; exact iN.not h2,K'⟩
   have read:∀ {h':Heap} {K1:ByteArray→Prop},aD (be b0 m ⟨dir,D,N⟩::aL 9 1 a ks.length cc (ks.map Value.string)::bg m B::F) h'→K1 s→aM a ks.length (i:Int) 1 fun b=>Ld h' b fun v=>DS v K1:=fun {h' K1} K' hK=>by
    refine eH (aI (K'.mv 1)) rfl hsi fun bb hc=>?_;exact ⟨.string s,hc,s,rfl,hK⟩
   refine read K ?_;by_cases hz:s.size<2
   · rw [af (show (s.size:Int)<2 by omega),ab];exact skip (fun v _ e=>by have:=fL 100 v; rw [e] at this; omega) (fun v _ e=>by have:=fL 110 v; rw [e] at this; omega) K
   rw [ae (show ¬ (s.size:Int)<2 by omega),aa];refine read K ?_;have hcut:∀ {K1:ByteArray→Prop},K1 (s.extract 0 2)→ju s 0 2 K1:=fun hK=>⟨by decide,by decide,by omega,hK⟩
   have pre:∀ (c:Nat) (v:Int),c<256→sb ((cI c v).extract 0 2)=[c,46]:=fun c v hc=>by rw [cN,mT hc]; rfl
   have tail:∀ k:Nat,(k=100∨k=110)→sb (s.extract 0 2)=[k,46]→
    aM a ks.length (i:Int) 1 fun a3=>Ld h' a3 fun v3=>DS v3 fun x5=>ju x5 2 (x5.size:Int) fun s3=>aC prog 66 [.string s3] h' fun r2 h_3=>∃ (x6:Int),∃ (x7:Bool),r2=.tuple #[.int .i64 x6,.bool x7]∧
     (bif !x7 then again ((i+1:Nat):Int) h_3 else (bif (x6:Int)==0 then again ((i+1:Nat):Int) h_3 else (bif decide ((x6:Int)>1099511627776) then again ((i+1:Nat):Int) h_3 else
      aM a ks.length (i:Int) 1 fun a4=>Ld h_3 a4 fun v4=>DS v4 fun x8=>0≤(0:Int)∧(0:Int)<((x8:ByteArray).size:Int)∧
      (bif ((bt x8 0):Int)==100 then
       Ld h_3 ((Addr.mk b0 0 none).add 2) fun v5=>aX v5 fun x9a x9l x9c=>Al h_3 (.cells #[.int .i64 x6] 2) fun b1 h_4=>bi prog (append_ #[76,76] 76 #[.slice x9a x9l x9c,.slice (some (Addr.mk b1 0 none)) 1 1]) h_4 fun r4 h_5=>
        aX r4 fun x10a x10l x10c=>bI h_5 (((Addr.mk b0 0 none).add 2).add 0) (.slice x10a x10l x10c) fun h_7=>again ((i+1:Nat):Int) h_7
      else
       Ld h_3 ((Addr.mk b0 0 none).add 3) fun v6=>aX v6 fun x11a x11l x11c=>Al h_3 (.cells #[.int .i64 x6] 2) fun b2 h_8=>bi prog (append_ #[76,76] 76 #[.slice x11a x11l x11c,.slice (some (Addr.mk b2 0 none)) 1 1]) h_8 fun r7 h_9=>
        aX r7 fun x12a x12l x12c=>bI h_9 (((Addr.mk b0 0 none).add 3).add 0) (.slice x12a x12l x12c) fun h_11=>again ((i+1:Nat):Int) h_11)))):=by
    intro k hk hpre;have hk8:k<256:=by omega
    refine read K ⟨by decide,by omega,Int.le_refl _,?_⟩;rw [show (2:Int).toNat=2 from rfl,Int.toNat_natCast];have hex:∀ (c:Nat) (v:Int),c<256→nh v→dp (sb ((cI c v).extract 2 (cI c v).size))=some (ff v):=fun c v hc hv=>by
     obtain ⟨hn1,hn2⟩:=i2 hv.id;have he:sb ((cI c v).extract 2 (cI c v).size)=cE 16 (ff v):=by
      rw [cN,mT hc,fL,ar (by simp [Hex.eL])]
      rfl
     rw [he,Hex.qe (by omega),al hn2]
    refine (Dk (by rw [← aW,cN,aq]; omega) K).mono ?_;rintro q h12 ⟨rfl,K1⟩
    cases hu:dp (sb (s.extract 2 s.size)) with
    | none=>
      refine ⟨0,false,rfl,?_⟩;rw [aA,ab];exact skip (fun v hv e=>by rw [← e,hex 100 v (by decide) hv] at hu; cases hu) (fun v hv e=>by rw [← e,hex 110 v (by decide) hv] at hu; cases hu) K1
    | some n=>
      refine ⟨(n:Int),true,rfl,?_⟩;have out:¬ nh (n:Int)→again ((i+1:Nat):Int) h12:=fun hn=>by
       have hne:∀ k,k<256→∀ v,nh v→cI k v≠s:=fun k hk v hv e=>by
        rw [← e,hex k v hk hv] at hu;cases hu;rw [(i2 hv.id).1] at hn;exact hn hv
       exact skip (hne 100 (by decide)) (hne 110 (by decide)) K1
      rw [az,aa];by_cases h1:n=0
      · rw [li (show (n:Int)=0 by omega),ab];exact out (fun hh=>by have:=hh.1; omega)
      rw [jq (show ¬ (n:Int)=0 by omega),aa];by_cases h40:1099511627776<n
      · rw [af (show (n:Int)>1099511627776 by omega),ab];exact out (fun hh=>by have:=hh.2; omega)
      rw [ae (show ¬ (n:Int)>1099511627776 by omega),aa];have hv:nh (n:Int):=⟨by omega,by omega⟩
      obtain ⟨u1,u2⟩:=Hex.rL hu;have hsk:s=cI k (n:Int):=by
       refine gL ?_;rw [mT hk8,ma (by omega),← u1];rw [cN] at hpre;rw [cN,ar (by rw [length_drop,aW]; omega)];have e1:sb s=(sb s).take 2++(sb s).drop 2:=(take_append_drop _ _).symm;rw [e1];have e2:(sb s).take 2=[k,46]:=hpre
       conv=>lhs; rw [e2]
       conv=>rhs; rw [← e1]
       rfl
      refine read K1 ⟨by decide,by omega,?_⟩;have hb0:bt s 0=(k:Int):=iO (i:=0) (by rw [hsk,mT hk8]; rfl);rw [hb0];obtain ⟨a1,c1,a2,c2,K2⟩:=dS K1
      rcases hk with rfl | rfl
      · rw [show ((((100:Nat):Int))==100)=true from rfl,ab];refine bJ K2 rfl ?_;refine iS rfl (by dsimp only; omega) (K2.mv 1) fun a' c' h13 K3=>?_;rw [aF];refine cd (K3.mv 1) (show 2<4 by decide) rfl fun h14 K4=>?_;refine go _ _ ⟨rfl,by omega,D++[((n:Int),())],N,?_,?_,?_⟩
        · rw [htk,← iD.last (by decide) hup hv (by rw [hsi,hsk])];rw [hsk];exact iD.add (by decide) hv
        · rw [htk,hsk]; exact iN.skip (by decide) (by decide) (by decide) hv
        · exact cU (S:=⟨dir,D++[((n:Int),())],N⟩) K4
      · rw [show ((((110:Nat):Int))==100)=false from rfl,aa];refine bJ K2 rfl ?_;refine iS rfl (by dsimp only; omega) (K2.mv 2) fun a' c' h13 K3=>?_;rw [aF];refine cd (K3.mv 1) (show 3<4 by decide) rfl fun h14 K4=>?_;refine go _ _ ⟨rfl,by omega,D,N++[((n:Int),())],?_,?_,?_⟩
        · rw [htk,hsk]; exact iD.skip (by decide) (by decide) (by decide) hv
        · rw [htk,← iN.last (by decide) hup hv (by rw [hsi,hsk])];rw [hsk];exact iN.add (by decide) hv
        · exact cU (S:=⟨dir,D,N++[((n:Int),())]⟩) (K4.ordT 3 [0,2,1])
   refine hcut ?_;have eqd:bL (s.extract 0 2) ⟨#[100,46]⟩=decide (sb (s.extract 0 2)=[100,46]):=by rw [gd]; rfl
   have eqn:bL (s.extract 0 2) ⟨#[110,46]⟩=decide (sb (s.extract 0 2)=[110,46]):=by rw [gd]; rfl
   by_cases hd:sb (s.extract 0 2)=[100,46]
   · rw [eqd,af hd,az,aa];exact tail 100 (.inl rfl) hd
   · rw [eqd,ae hd,aA,ab];refine read K ?_;refine hcut ?_;by_cases hn:sb (s.extract 0 2)=[110,46]
     · rw [eqn,af hn,az,aa];exact tail 110 (.inr rfl) hn
     · rw [eqn,ae hn,aA,ab];exact skip (fun v _ e=>hd (by rw [← e]; exact pre 100 v (by decide))) (fun v _ e=>hn (by rw [← e]; exact pre 110 v (by decide))) K
 · rintro s0 h' again ⟨rfl,_,D,N,iD,iN,K⟩;rw [ae (by omega),aa];rw [take_length] at iD iN;refine .inl ⟨b0,D,N,ks,hk',rfl,iD,iN,?_⟩;rw [hB];exact K.ordT 3 [0,2]
end
open TS (Ch gk Diffs dL VT dG cD EU)
section
variable {F:List aG} {h:Heap} {r m:Nat} {S:eT} {A:AF.FS} {dir:ByteArray}
def uL (r m:Nat) (S:eT) (A:AF.FS) (res:Except Nat (Tb.T VT)) (F:List aG) (x:Value) (h':Heap):Prop:=
 (∃ u t c,res=.ok u∧x=.tuple #[.slice t u.length c,.int .i64 0]∧aD (aL 50 2 t u.length c (u.flatMap pairC)::be r m S::bg m A::F) h')∨
 (∃ e:Nat,res=.error e∧e≠0∧x=.tuple #[.slice none 0 0,.int .i64 (e:Int)]∧aD (be r m S::bg m A::F) h')
set_option maxHeartbeats 4000000 in
theorem qH {v at_:Int} {t:Option Addr} {tc:Nat} {u:Tb.T VT} (W:A.WF) (U:Tb.Up u) (hm:dq u≤16777216) (h0:0≤at_) (hav:at_≤v) (hv:v≤1099511627776) (hN:(v - at_).toNat≤5000)
  (H:aD (aL 50 2 t u.length tc (u.flatMap pairC)::be r m S::bg m A::F) h) {Q:Value→Heap→Prop} (hQ:∀ x h',uL r m S A (iF S A (v - at_).toNat at_ u) F x h'→Q x h'):Hz (some ⟨r,0,none⟩) v at_ t u.length tc h Q:=by
 unfold Hz
 refine aU.by (fun (s:Sl×Int) h'=>∃ (n:Nat) (w:Tb.T VT),s.2=at_+(n:Int)+1∧n≤(v - at_).toNat∧iF S A n at_ u=.ok w∧s.1.l=w.length∧aD (aL 50 2 s.1.a w.length s.1.c (w.flatMap pairC)::be r m S::bg m A::F) h') (fun s=>(v+1 - s.2).toNat)
  ⟨0,u,by rw [IntWalk.i64_in _ (by omega)]; simp,au _,rfl,rfl,H⟩ ?_
 rintro ⟨⟨wa,wl,wc⟩,s2⟩ h1 again ⟨n,w,rfl,hn,hrun,rfl,H1⟩ go
 dsimp only at H1 ⊢
 obtain ⟨Uw,mw⟩:=t7 _ _ _ _ hrun U
 have hwl:w.length≤50000000000:=by
  have h1:=oP w;have h2:n*16777216≤5000*16777216:=Nat.mul_le_mul_right _ (by omega);omega
 by_cases hkv:at_+(n:Int)+1≤v
 rotate_left
 · rw [ae hkv,aa];have e:n=(v - at_).toNat:=by omega
   rw [e] at hrun;exact hQ _ _ (.inl ⟨w,wa,wc,hrun,rfl,H1⟩)
 rw [af hkv,ab]
 have hmore:∀ e,eR S A (at_+(n:Int)+1) w=.error e→iF S A (v - at_).toNat at_ u=.error e:=fun e he=>by
  have e1:(v - at_).toNat=n+(((v - at_).toNat - n - 1)+1):=by omega
  rw [e1,j2,hrun];simp only [];rw [fS,he]
 refine (lU (n:=at_+(n:Int)+1) H1).mono ?_
 rintro x h2 ⟨rfl,H2⟩
 rw [aR]
 refine ⟨nM rfl,?_⟩
 rw [Ct]
 refine (wW (name:=cI 100 (at_+(n:Int)+1)) W (H2.ordT 3 [1,2,0])).mono ?_
 rintro x h3 (⟨ps,pa,pc,hps,rfl,H3⟩ | ⟨e,hps,e0,rfl,H3⟩)
 rotate_left
 · refine ⟨none,0,0,(e:Int),rfl,?_⟩;rw [bm e0,ab];exact hQ _ _ (.inr ⟨e,hmore e (by unfold eR; rw [hps]),e0,rfl,H3.ordT 3 [0,1]⟩)
 refine ⟨pa,ps.length,pc,0,rfl,?_⟩
 rw [show ((0:Int)!=0)=false from rfl,aa]
 have hpl:=kF (fl hps)
 have hbad:dv ps=none→∀ h',aD (aL 50 2 pa ps.length pc (ps.flatMap pairC)::be r m S::bg m A::aL 50 2 wa w.length wc (w.flatMap pairC)::F) h'→Q (.tuple #[.slice none 0 0,.int .i64 181]) h':=fun hc h' H'=>
  hQ _ _ (.inr ⟨181,hmore 181 (by unfold eR; rw [hps]; simp only []; rw [hc]),by decide,rfl,H'.ordT 4 [1,2]⟩)
 refine aU.upto ps.length (fun i (s:Int) h'=>s=(i:Int)∧i≤ps.length∧(∃ d,fI (ps.take i)=some d∧d.length=i∧mK (d.map fun x=>x.1)=true)∧aD (aL 50 2 pa ps.length pc (ps.flatMap pairC)::be r m S::bg m A::aL 50 2 wa w.length wc (w.flatMap pairC)::F) h') (fun s=>ps.length - s.toNat) (fun i s h' hh=>⟨hh.2.1,by rw [hh.1]; omega⟩)
  ⟨rfl,au _,⟨[],rfl,rfl,rfl⟩,H3⟩ ?_ ?_
 · rintro i s h4 again3 hi ⟨rfl,_,⟨d,hd,hdl,hup⟩,H4⟩ go3;rw [af (show ((i:Int)<(ps.length:Int)) by omega),ab];have hw:wrap .i64 ((i:Int)+1)=((i+1:Nat):Int):=aH (by omega);rw [hw];obtain ⟨⟨k,y⟩,hx⟩:∃ x,ps[i]? = some x:=⟨_,ah hi⟩
   have htk:ps.take (i+1)=ps.take i++[(k,y)]:=by rw [ax,hx]; rfl
   refine ce (f:=pairC) (sz:=2) bX (by decide) (aI H4) rfl hx fun b1 hb1 hc1=>?_;refine ⟨.string k,hc1 0 _ rfl,.string y,hc1 1 _ rfl,k,y,rfl,?_⟩;refine aQ H4 fun b0 h5 H5=>?_;refine cd H5 (show 0<2 by decide) rfl fun h6 H6=>?_;refine cd (i:=1) H6 (show 1<2 by decide) rfl fun h7 H7=>?_;have H8:aD (pt b0 (.cells #[.string k,.string y] 50 (0,0))::aL 50 2 pa ps.length pc (ps.flatMap pairC)::be r m S::bg m A::aL 50 2 wa w.length wc (w.flatMap pairC)::F) h7:=H7;have none_of:jP (k,y)=none→Q (.tuple #[.slice none 0 0,.int .i64 181]) h7:=fun hn=>hbad (by unfold dv; rw [nf hx hn]) h7 H8.drop;refine bu (x:=k) H8 rfl ?_
   cases hk:sb k with
   | nil=>
     have hz:k.size=0:=by rw [← aW,hk]; rfl
     rw [hz,show ((((0:Nat):Int))==0)=true from rfl,ab];exact none_of (by unfold jP; simp only [hk])
   | cons c0 tl=>
     obtain ⟨_,hpos,hbt,hc8,hcut⟩:=mf hk;rw [show ((k.size:Int)==0)=false from by rw [beq_eq_false_iff_ne]; omega,aa];refine bu (x:=k) H8 rfl ⟨by decide,hpos,?_⟩;rw [hbt];have cmp:∀ {z:Ch},jP (k,y)=some z→(bif decide ((i:Int)>0) then
      aM pa ps.length (wrap .i64 ((i:Int) - 1)) 2 fun a4=>Ld h7 (a4.add 0) fun v8=>DS v8 fun x16=>ju x16 1 (x16.size:Int) fun s5=>Ld h7 ((Addr.mk b0 0 none).add 0) fun v9=>DS v9 fun x17=>ju x17 1 (x17.size:Int) fun s6=>
       (bif !dC s5 s6 then Q (.tuple #[.slice none 0 0,.int .i64 181]) h7 else again3 ((i+1:Nat):Int) h7)
      else again3 ((i+1:Nat):Int) h7):=by
      intro z hz;obtain ⟨cz,hz1,_⟩:=lO hz;have hzk:cn tl=z.1:=by
       have e:tl=sb z.1:=by
        have:sb k=cz::sb z.1:=hz1;rw [hk] at this;exact (List.cons.inj this).2
       rw [e,qC]
      have hsn:=m9 hd hz;rw [← htk] at hsn;have hsl:(d++[z]).length=i+1:=by rw [am,hdl]; rfl
      by_cases hi0:0<i
      · rw [af (show (i:Int)>0 by omega),ab];have e1:wrap .i64 ((i:Int) - 1)=((i - 1:Nat):Int):=by rw [IntWalk.i64_in _ (by omega)]; omega
        rw [e1];obtain ⟨⟨k0,y0⟩,hx0⟩:∃ x,ps[i - 1]? = some x:=⟨_,ah (by omega)⟩
        obtain ⟨z0,hz0,hd0⟩:=oW (i:=i - 1) (p:=(k0,y0)) hd (by rw [getElem?_take,al (by omega)]; exact hx0);obtain ⟨c00,h01,_⟩:=lO hz0;have h01':sb k0=c00::sb z0.1:=h01;obtain ⟨_,_,_,_,hcut0⟩:=mf h01';refine ce (f:=pairC) (sz:=2) bX (by decide) (aI (H8.mv 1)) rfl hx0 fun b2 hb2 hc2=>?_;refine ⟨.string k0,hc2 0 _ rfl,k0,rfl,hcut0.of ?_⟩;refine bu (x:=k) H8 rfl (hcut.of ?_);rw [qC,hzk];have hm2:=nn (l:=(d++[z]).map fun x=>x.1) (i:=i) (x:=z0.1) (y:=z.1) (by omega) (by rw [getElem?_map,List.getElem?_append_left (by omega),hd0]; rfl) (by rw [getElem?_map,List.getElem?_append_right (by omega),hdl,Nat.sub_self]; rfl) (by rw [← map_take,List.take_left' hdl]; exact hup);have hall:((d++[z]).map fun x=>x.1).take (i+1)=(d++[z]).map fun x=>x.1:=ar (by rw [an,hsl]; exact av _);rw [hall] at hm2
        cases hlt:dC z0.1 z.1 with
        | true=>
          rw [az,aa];exact go3 _ _ ⟨rfl,by omega,⟨_,hsn,hsl,hm2.1 hlt⟩,H8.drop⟩
        | false=>
          rw [aA,ab];exact hbad (uE hsn (hm2.2 hlt)) h7 H8.drop
      · rw [ae (show ¬ (i:Int)>0 by omega),aa];have hd0:d=[]:=eq_nil_of_length_eq_zero (by omega);subst hd0;exact go3 _ _ ⟨rfl,by omega,⟨_,hsn,hsl,rfl⟩,H8.drop⟩
     by_cases h43:c0=43
     · subst h43;rw [show ((((43:Nat):Int))!=43)=false from rfl,aa];exact cmp (z:=(cn tl,y,false)) (by unfold jP; simp only [hk]; rfl)
     · rw [show ((c0:Int)!=43)=true from by rw [bne_iff_ne]; omega,ab];refine bu (x:=k) H8 rfl ⟨by decide,hpos,?_⟩;rw [hbt];by_cases h45:c0=45
       · subst h45;rw [show ((((45:Nat):Int))!=45)=false from rfl,aa];refine bu (i:=1) (x:=y) H8 rfl ?_;by_cases hy0:y=.empty
         · subst hy0;rw [show bL .empty .empty=true from by rw [bO]; exact af rfl,az,aa];exact cmp (z:=(cn tl,.empty,true)) (by unfold jP; simp only [hk]; rfl)
         · rw [show bL y .empty=false from by rw [bO]; exact ae hy0,aA,ab];exact none_of (by unfold jP; simp only [hk]; simp [hy0])
       · rw [show ((c0:Int)!=45)=true from by rw [bne_iff_ne]; omega,ab];exact none_of (by unfold jP; simp only [hk]; rw [ak h43,ak h45])
 · rintro s h4 again3 ⟨rfl,_,⟨d,hd,hdl,hup⟩,H4⟩;rw [ae (by omega),aa];rw [ar (av _)] at hd;have hch:dv ps=some d:=by unfold dv; rw [hd]; simp only []; rw [al hup]
   have hdelta:eR S A (at_+(n:Int)+1) w=.ok (dL w d):=by unfold eR; rw [hps]; simp only []; rw [hch]
   have hrun2:iF S A (n+1) at_ u=.ok (dL w d):=by
    rw [j2,hrun];simp only [];rw [fS,hdelta]
    rfl
   refine aU.upto ps.length (fun i (s:Sl×Int) h'=>s.2=(i:Int)∧i≤ps.length∧s.1.l=(dL w (d.take i)).length∧aD (aL 50 2 s.1.a (dL w (d.take i)).length s.1.c ((dL w (d.take i)).flatMap pairC)::aL 50 2 pa ps.length pc (ps.flatMap pairC)::be r m S::bg m A::F) h') (fun s=>ps.length - s.2.toNat) (fun i s h' hh=>⟨hh.2.1,by rw [hh.1]; omega⟩)
    ⟨rfl,au _,rfl,H4.ordT 4 [3,0,1,2]⟩ ?_ ?_
   · rintro i ⟨⟨ta,tl,tc⟩,s2⟩ h5 again4 hi ⟨rfl,_,rfl,H5⟩ go4;dsimp only at H5 ⊢;rw [af (show ((i:Int)<(ps.length:Int)) by omega),ab];have hw:wrap .i64 ((i:Int)+1)=((i+1:Nat):Int):=aH (by omega);rw [hw];obtain ⟨⟨k,y⟩,hx⟩:∃ x,ps[i]? = some x:=⟨_,ah hi⟩
     obtain ⟨z,hz,hdz⟩:=oW hd hx;obtain ⟨cz,hz1,hz2,hz3⟩:=lO hz;have hz1':sb k=cz::sb z.1:=hz1;have hz2':z.2.1=y:=hz2;obtain ⟨_,hpos,hbt,hc8,hcut⟩:=mf hz1';rw [qC] at hcut;have happ:=TS.appL_take (l:=w) hdz;have Uap:=TS.appL_up Uw (d.take i);have hal:(dL w (d.take i)).length<1099511627776:=by
      have:=TS.appL_len w (d.take i);rw [aq] at this;omega
     have rd:∀ {h':Heap} {j:Nat} {x:ByteArray} {K:ByteArray→Prop},(pairC (k,y))[j]? = some (.string x)→aD (aL 50 2 ta (dL w (d.take i)).length tc ((dL w (d.take i)).flatMap pairC)::aL 50 2 pa ps.length pc (ps.flatMap pairC)::be r m S::bg m A::F) h'→K x→
      aM pa ps.length (i:Int) 2 fun a=>Ld h' (a.add j) fun v=>DS v K:=fun {h' j x K} hj H' hK=>by
      refine ce (f:=pairC) (sz:=2) bX (by decide) (aI (H'.mv 1)) rfl hx fun b2 hb2 hc2=>?_;exact ⟨.string x,hc2 j _ hj,x,rfl,hK⟩
     refine rd (j:=0) (x:=k) rfl H5 ⟨by decide,hpos,?_⟩;rw [hbt]
     rcases hz3 with ⟨hc,hg⟩ | ⟨hc,hg,_⟩
     · rw [hc,show ((((43:Nat):Int))==43)=true from rfl,ab];refine rd (j:=0) (x:=k) rfl H5 (hcut.of ?_);refine rd (j:=1) (x:=y) rfl H5 ?_;refine (TS.F54_spec (key:=z.1) (val:=y) (F:=aL 50 2 ta (dL w (d.take i)).length tc ((dL w (d.take i)).flatMap pairC)::aL 50 2 pa ps.length pc (ps.flatMap pairC)::be r m S::bg m A::F) (fun h' hh=>aI hh) rfl hal Uap H5).mono ?_;rintro x h6 ⟨a',n',c',rfl,hn',H6⟩;subst hn';rw [aF];have e:dL w (d.take (i+1))=Tb.set z.1 y (dL w (d.take i)):=by rw [happ,ak (by rw [hg]; decide),hz2']
       refine go4 _ _ ⟨rfl,by omega,by rw [e],?_⟩;rw [e];exact H6.ordT 2 [0]
     · rw [hc,show ((((45:Nat):Int))==43)=false from rfl,aa];refine rd (j:=0) (x:=k) rfl H5 (hcut.of ?_);refine (TS.F75_spec (key:=z.1) (F:=aL 50 2 ta (dL w (d.take i)).length tc ((dL w (d.take i)).flatMap pairC)::aL 50 2 pa ps.length pc (ps.flatMap pairC)::be r m S::bg m A::F) (fun h' hh=>aI hh) rfl hal H5).mono ?_;rintro x h6 ⟨a',n',c',rfl,hn',H6⟩;subst hn';rw [aF];have e:dL w (d.take (i+1))=Tb.del (dL w (d.take i)) z.1:=by rw [happ,al hg]
       refine go4 _ _ ⟨rfl,by omega,by rw [e],?_⟩;rw [e];exact H6.ordT 2 [0]
   · rintro ⟨⟨ta,tl,tc⟩,s2⟩ h5 again4 ⟨rfl,_,rfl,H5⟩;dsimp only at H5 ⊢;rw [ae (by omega),aa];rw [ar (by omega)] at H5 ⊢;have hw:wrap .i64 (at_+(n:Int)+1+1)=at_+((n+1:Nat):Int)+1:=by rw [IntWalk.i64_in _ (by omega)]; omega
     rw [hw];exact go _ _ ⟨n+1,dL w d,rfl,by omega,hrun2,rfl,H5.ordT 4 [0,2,3]⟩ (by simp only; omega)
set_option maxHeartbeats 4000000 in
theorem rn {v:Int} (O:mH S) (W:A.WF) (hD:S.D.length≤5000) (hNl:S.N.length<1000000000) (H:aD (be r m S::bg m A::F) h) :
  aC prog 27 [aJ r,.int .i64 v] h (uL r m S A (iM S A v) F):=by
 apply JH.ap
 unfold Ox iM
 by_cases hv0:v<0
 · rw [af hv0,ab,al (.inl hv0)];exact .inr ⟨2,rfl,by decide,rfl,H⟩
 rw [ae hv0,aa]
 by_cases hv2:1099511627776<v
 · rw [af (show v>1099511627776 from hv2),ab,al (.inr hv2)];exact .inr ⟨2,rfl,by decide,rfl,H⟩
 rw [ae (show ¬ v>1099511627776 from hv2),aa,ak (by omega)]
 refine (wX (v:=v) O hNl H).mono ?_
 rintro x h1 ⟨rfl,rfl⟩
 obtain ⟨n0,n1,n2,_⟩:=py (S.N.map (·.1)) v (by omega)
 generalize hat_:dI (S.N.map (·.1)) v=at_ at n0 n1 n2 ⊢
 rw [aK]
 refine aU.by (fun (s:Int) h'=>∃ k:Int,s=k+1∧at_≤k∧k≤v∧(∀ j,at_<j→j≤k→(j,())∈S.D)∧aD (be r m S::bg m A::F) h') (fun s=>(v+1 - s).toNat)
  ⟨at_,by rw [IntWalk.i64_in _ (by omega)],Int.le_refl _,n1,fun j h1 h2=>by omega,H⟩ ?_
 rintro s h2 again ⟨k,rfl,hk1,hk2,hall,H2⟩ go
 by_cases hkv:k+1≤v
 · rw [af hkv,ab,aY];obtain ⟨a1,c1,a2,c2,H3⟩:=dS H2;refine bJ H3 rfl ?_;refine (ri (v:=k+1) (aI (H3.mv 1)) rfl (by omega)).mono ?_;rintro x h4 ⟨rfl,rfl⟩;rw [bE];by_cases hm:(k+1,())∈S.D
   · rw [af hm,az,aa];have hw:wrap .i64 (k+1+1)=k+1+1:=IntWalk.i64_in _ (by omega);rw [hw];refine go _ _ ⟨k+1,rfl,by omega,hkv,fun j h1 h2=>?_,H2⟩ (by omega);by_cases e:j=k+1
     · rw [e]; exact hm
     · exact hall j h1 (by omega)
   · rw [ae hm,aA,ab];refine Or.inr ⟨180,?_,by decide,rfl,H2⟩;rw [al];exact fun hh=>hm (hh (k+1) (by omega) hkv)
 · rw [ae hkv,aa];have e:k=v:=by omega
   subst e;have hallD:AH S.D at_ k:=hall;have hlen:=wE hallD;rw [ak (not_not_intro hallD)];by_cases hat:at_=0
   · subst hat;rw [show (decide ((0:Int)>0))=false from rfl,aa];have eb:gH S A 0=.ok []:=al rfl;rw [eb];exact qH (u:=[]) W List.Pairwise.nil (au _) n0 n1 (by omega) (by omega) (bG 50 2 H2) (Q:=uL r m S A (iF S A (k - 0).toNat 0 []) F) fun x h' H'=>H'
   · rw [af (show at_>0 by omega),ab];refine (lU (n:=at_) H2).mono ?_;rintro x h4 ⟨rfl,H4⟩;rw [aR];refine ⟨nM rfl,?_⟩;rw [Cs];refine (wW (name:=cI 110 at_) W H4).mono ?_;rintro x h5 (⟨ps,pa,pc,hps,rfl,H5⟩ | ⟨e,hps,e0,rfl,H5⟩)
     rotate_left
     · refine ⟨none,0,0,(e:Int),rfl,?_⟩;rw [bm e0,ab];have eb:gH S A at_=.error e:=by unfold gH; rw [ak hat,hps]
       rw [eb];exact .inr ⟨e,rfl,e0,rfl,H5⟩
     refine ⟨pa,ps.length,pc,0,rfl,?_⟩;rw [show ((0:Int)!=0)=false from rfl,aa];have hmass:=fl hps;have hpl:=kF hmass;refine aU.by (fun (s:Int) h'=>∃ i:Nat,s=(i:Int)∧1≤i∧i≤ps.length+1∧mK ((ps.map (·.1)).take i)=true∧aD (aL 50 2 pa ps.length pc (ps.flatMap pairC)::be r m S::bg m A::F) h') (fun s=>ps.length+1 - s.toNat) ⟨1,rfl,av _,by omega,tS _,H5⟩ ?_;rintro s h6 again1 ⟨i,rfl,hi1,hi2,hup,H6⟩ go1;by_cases hil:i<ps.length
     · rw [af (show ((i:Int)<(ps.length:Int)) by omega),ab];have e1:wrap .i64 ((i:Int) - 1)=((i - 1:Nat):Int):=by rw [IntWalk.i64_in _ (by omega)]; omega
       rw [e1];obtain ⟨⟨k1,x1⟩,hx1⟩:∃ x,ps[i - 1]? = some x:=⟨_,ah (by omega)⟩
       obtain ⟨⟨k2,x2⟩,hx2⟩:∃ x,ps[i]? = some x:=⟨_,ah (by omega)⟩
       refine ce (f:=pairC) (sz:=2) bX (by decide) (aI H6) rfl hx1 fun b1 hb1 hc1=>?_;refine ⟨.string k1,hc1 0 _ rfl,k1,rfl,?_⟩;refine ce (f:=pairC) (sz:=2) bX (by decide) (aI H6) rfl hx2 fun b2 hb2 hc2=>?_;refine ⟨.string k2,hc2 0 _ rfl,k2,rfl,?_⟩;obtain ⟨m1,m2⟩:=nn (l:=ps.map (·.1)) hi1 (by rw [getElem?_map,hx1]; rfl) (by rw [getElem?_map,hx2]; rfl) hup
       cases hlt:dC k1 k2 with
       | true=>
         rw [az,aa,aH (by omega)];exact go1 _ _ ⟨i+1,rfl,by omega,by omega,m1 hlt,H6⟩ (by omega)
       | false=>
         rw [aA,ab];have eb:gH S A at_=.error 181:=by unfold gH; rw [ak hat,hps]; simp only []; rw [m2 hlt]; rfl
         rw [eb];exact .inr ⟨181,rfl,by decide,rfl,H6.drop⟩
     · rw [ae (by omega),aa];rw [ar (by rw [an]; omega)] at hup;have eb:gH S A at_=.ok ps:=by unfold gH; rw [ak hat,hps]; simp only []; rw [hup]; rfl
       rw [eb];have hUp:Tb.Up ps:=List.pairwise_map.1 (ku.1 hup);exact qH W hUp hmass n0 n1 (by omega) (by omega) H6 (Q:=uL r m S A (iF S A (k - at_).toNat at_ ps) F) fun x h' H'=>H'
end
end Go.Proofs.YtibdiikcigokjaaGreat
