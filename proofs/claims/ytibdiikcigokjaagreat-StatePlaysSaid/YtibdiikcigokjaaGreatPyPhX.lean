/- Changes as pairs and back; keys that rise (seat S). -/
import Derived.Test.YtibdiikcigokjaaGreatPyPdX
import Derived.Test.YtibdiikcigokjaaGreatPyPgX
import Derived.Laws.MakeOwn
namespace Go.Proofs.YtibdiikcigokjaaGreat
open Go.IntKind (wrap)
open Go.Proofs.Tryz (prog)
open List (map_append getElem?_eq_none flatMap_append)
open Go Go.RowKit Go.MapKept
set_option linter.unusedVariables false
set_option linter.unusedSimpArgs false
open AF (cI kZ ln dF)
open TS (Ch gk Diffs dL VT)
def pl:ByteArray:=⟨#[43]⟩
def mi:ByteArray:=⟨#[45]⟩
def kP (x:Ch):ByteArray×ByteArray:=if x.2.2=true then (mi++x.1,.empty) else (pl++x.1,x.2.1)
def bo (d:List Ch):gX:=d.map kP
def EC (P:Program) (e:TypeId):Prop:=∃ i,P.info? e=some i∧i.zero=some (.agg #[.string .empty,.string .empty,.bool false])∧i.size=3∧i.bytes=40
theorem Az:EC prog 103:=⟨(prog.info? 103).get (by kernel_rfl),by kernel_rfl,by kernel_rfl,by kernel_rfl,by kernel_rfl⟩
def wz:Ch:=(.empty,.empty,false)
theorem E7 (n:Nat):(madeCells (Value.cells (.agg #[.string .empty,.string .empty,.bool false])) (n*3)).toList=(List.replicate n wz).flatMap gk:=by
 have hz:Value.cells (.agg #[.string .empty,.string .empty,.bool false])=#[.string .empty,.string .empty,.bool false]:=by simp [Value.cells]
 rw [hz]
 apply List.ext_getElem?
 intro j
 by_cases hj:j<n*3
 · have hi:(List.replicate n wz)[j / 3]? = some wz:=by rw [List.getElem?_replicate,al (by omega)]
   have h2:=i3 (f:=gk) (sz:=3) (fun _=>rfl) hi (j:=j%3) (Nat.mod_lt _ (by decide));rw [show j / 3*3+j%3=j by omega] at h2;rw [h2];have:(madeCells #[.string .empty,.string .empty,.bool false] (n*3)).toList[j]? = some (#[Value.string .empty,.string .empty,.bool false][j%3]!):=by
    unfold madeCells;simp [hj]
   rw [this];have h3:j%3<3:=Nat.mod_lt _ (by decide);generalize j%3=m at h3
   match m,h3 with
   | 0,_=>rfl
   | 1,_=>rfl
   | 2,_=>rfl
 · rw [getElem?_eq_none (by simp [madeCells]; omega),getElem?_eq_none (by rw [iU (sz:=3) (fun _=>rfl)]; simp; omega)]
theorem CY {α:Type} {f:α→List Value} {sz i:Nat} {h:Heap} {b:Addr} {xs:List α} {x:α} (hf:∀ x,(f x).length=sz) (H:dw h (some b) (xs.flatMap f)) (hi:xs[i]? = some x):∀ j v,(f x)[j]? = some v→ck h ((b.add (i*sz)).add j)=some v:=fun j v hv=>by
 rw [cZ]
 refine H _ _ ?_
 have:=(aj.1 hv).1
 rw [hf] at this
 rw [i3 hf hi this,hv]
theorem oK {α:Type} {f:α→List Value} {sz:Nat} {h:Heap} {F:List aG} {e:TypeId} {b:Addr} {l c i j:Nat} {xs:List α} {x:α} (x':α) {v:Value} {K:Heap→Prop} (hf:∀ x,(f x).length=sz) (H:aD (aL e sz (some b) l c (xs.flatMap f)::F) h) (hi:xs[i]? = some x) (hj:j<sz) (hx:(f x).set j v=f x')
  (hK:∀ h',aD (aL e sz (some b) l c ((xs.set i x').flatMap f)::F) h'→K h'):bI h ((b.add (i*sz)).add j) v K:=by
 have:=nJ x' hf H hi hj hx hK
 rwa [aS] at this
section
variable {F:List aG} {h:Heap} {a:Option Addr} {l c:Nat}
theorem xd {x y:ByteArray} (H:aD F h):aC prog 38 [.agg #[.string x,.string y]] h fun v h'=>v=.string x∧aD F h':=by
 apply Jz.ap
 unfold Om
 refine aQ H fun b0 h1 H1=>?_
 refine bu (x:=x) H1 rfl ?_
 exact ⟨rfl,H1.drop⟩
theorem tM {x y:ByteArray} {g:Bool} (H:aD F h):aC prog 108 [.agg #[.string x,.string y,.bool g]] h fun v h'=>v=.string x∧aD F h':=by
 apply Hi.ap
 unfold MD
 refine aQ H fun b0 h1 H1=>?_
 refine bu (x:=x) H1 rfl ?_
 exact ⟨rfl,H1.drop⟩
end
open TS (Ch gk Diffs dL VT cD dG)
section
variable {F:List aG} {h:Heap} {b fsb:Nat} {S:eT} {A:AF.FS}
theorem Nt {b i:Nat} {c:Array Value} {e:TypeId} {fr:Nat×Nat} {x:Bool} {K:Bool→Prop} (H:aD (pt b (.cells c e fr)::F) h) (hv:c[i]? = some (.bool x)) (hK:K x):Ld h ((Addr.mk b 0 none).add i) fun v=>DB v K:=
 ⟨.bool x,bQ (i:=i) H hv,x,rfl,hK⟩
set_option maxHeartbeats 1000000 in
theorem Eu {v:Int} {pa pb:Option Addr} {was now:Tb.T VT} (hv:nh v) (W:A.WF) (hs:A.steps+10<1099511627776) (hd:S.dir.size<4611686018427387904) (ha:was.length<1000000) (hb:now.length<1000000)
  (hf:∀ d,Diffs was now d→BF (bo d)) (H:aD (dg b fsb S::cg fsb A::cD pa was::cD pb now::F) h) :
  aC prog 10 [aJ b,.int .i64 v,.pointer pa,.pointer pb] h fun r h'=>∃ d,Diffs was now d∧r=.int .i64 (((S.lay A 100 v (bo d)).2.2:Nat):Int)∧(S.lay A 100 v (bo d)).1.WF∧(S.lay A 100 v (bo d)).1.steps≤A.steps+6∧
   aD (dg b fsb (S.lay A 100 v (bo d)).2.1::cg fsb (S.lay A 100 v (bo d)).1::cD pa was::cD pb now::F) h':=by
 apply Ev.ap
 unfold NB
 refine (rm (v:=v)).mono ?_
 rintro r h0 ⟨rfl,rfl⟩
 rw [ak (by have:=hv.1; have:=hv.2; omega),aK,show ((0:Int)!=0)=false from rfl,aa]
 refine (TS.F18_spec (by omega) (by omega) (H.ordT 4 [2,3,0,1])).mono ?_
 rintro r h1 ⟨sa,n,c,d,rfl,hdn,hD,H1⟩
 rw [aF]
 obtain ⟨f1,f2,f3⟩:=hf d hD
 have hpl:(bo d).length=d.length:=an _
 rw [hpl] at f2
 have hn1:n≤1000000:=by omega
 have hks:∀ x∈d,x.1.size≤1000000:=fun x hx=>by
  have:=(f3 (kP x) (List.mem_map.2 ⟨x,hx,rfl⟩)).1;unfold kP at this;split at this <;> simp only [ByteArray.size_append] at this <;> omega
 refine aU.upto n (fun i (s:Sl×Int) h'=>s.2=(i:Int)∧i≤n∧s.1.l=i∧aD (aL 50 2 s.1.a i s.1.c ((bo (d.take i)).flatMap pairC)::aL 103 3 sa n c (d.flatMap gk)::cD pa was::cD pb now::dg b fsb S::cg fsb A::F) h') (fun s=>n - s.2.toNat) (fun i s h2 hh=>⟨hh.2.1,by rw [hh.1]; omega⟩)
  ⟨rfl,au _,rfl,bG 50 2 H1⟩ ?_ ?_
 · rintro i ⟨⟨la,ll,lc⟩,s2⟩ h2 again hi ⟨rfl,_,hsl,H2⟩ go;dsimp only at hsl H2 ⊢;subst hsl;rw [af (show ((ll:Int)<(n:Int)) by omega),ab];obtain ⟨⟨k,x,g⟩,hx⟩:∃ x,d[ll]? = some x:=⟨_,ah (by omega)⟩
   have hxm:=ai hx;have hkz:=hks _ hxm;simp only at hkz;refine ce (f:=gk) (sz:=3) (fun _=>rfl) (by decide) (aI (H2.mv 1)) hdn hx fun b1 hb1 hc1=>?_;refine ⟨.string k,hc1 0 _ rfl,.string x,hc1 1 _ rfl,.bool g,hc1 2 _ rfl,k,x,g,rfl,?_⟩;refine aQ H2 fun b0 h3 H3=>?_;refine cd H3 (show 0<3 by decide) rfl fun h4 H4=>?_;refine cd (i:=1) H4 (show 1<3 by decide) rfl fun h5 H5=>?_;refine cd (i:=2) H5 (show 2<3 by decide) rfl fun h6 H6=>?_;have H7:aD (pt b0 (.cells #[.string k,.string x,.bool g] 103 (0,0))::aL 50 2 la ll lc ((bo (d.take ll)).flatMap pairC)::aL 103 3 sa n c (d.flatMap gk)::cD pa was::cD pb now::dg b fsb S::cg fsb A::F) h6:=H6;have one:(⟨#[43]⟩:ByteArray).size=1:=rfl;have one':(⟨#[45]⟩:ByteArray).size=1:=rfl;refine bu (x:=k) H7 rfl ⟨by omega,?_⟩;refine bu (i:=1) (x:=x) H7 rfl ?_;refine aQ H7 fun b1' h7 H8=>?_;refine cd H8 (show 0<2 by decide) rfl fun h8 H9=>?_;refine cd (i:=1) H9 (show 1<2 by decide) rfl fun h9 H10=>?_;have H11:aD (pt b1' (.cells #[.string (pl++k),.string x] 50 (0,0))::pt b0 (.cells #[.string k,.string x,.bool g] 103 (0,0))::aL 50 2 la ll lc ((bo (d.take ll)).flatMap pairC)::aL 103 3 sa n c (d.flatMap gk)::cD pa was::cD pb now::dg b fsb S::cg fsb A::F) h9:=H10;refine Nt (i:=2) (x:=g) (H11.mv 1) rfl ?_;have hw:wrap .i64 ((ll:Int)+1)=((ll+1:Nat):Int):=aH (by omega);have e2:(bo (d.take (ll+1))).flatMap pairC=(bo (d.take ll)).flatMap pairC++pairC (kP (k,x,g)):=by
    unfold bo;rw [ax,hx,map_append,flatMap_append];simp
   cases g with
   | true=>
     rw [ab];refine bu (x:=k) (H11.mv 1) rfl ⟨by omega,?_⟩;refine cd H11 (show 0<2 by decide) rfl fun h10 H12=>?_;refine cd (i:=1) H12 (show 1<2 by decide) rfl fun h11 H13=>?_;have H14:aD (pt b1' (.cells #[.string (mi++k),.string .empty] 50 (0,0))::pt b0 (.cells #[.string k,.string x,.bool true] 103 (0,0))::aL 50 2 la ll lc ((bo (d.take ll)).flatMap pairC)::aL 103 3 sa n c (d.flatMap gk)::cD pa was::cD pb now::dg b fsb S::cg fsb A::F) h11:=H13;refine ⟨.string (mi++k),by rw [aS,bD H14.get]; rfl,.string .empty,bQ (i:=1) H14 rfl,mi++k,.empty,rfl,?_⟩;refine aQ H14 fun b3 h12 H15=>?_;refine iW zI ox oT (H15.mv 3) (n:=1) (ys:=pairC (mi++k,.empty)) (bV (lm H15 rfl) rfl) (by intro u hu; simp [pairC] at hu; rcases hu with rfl | rfl <;> rfl) (by omega) fun a' c' h13 _ H16=>?_;rw [aF,hw];refine go _ _ ⟨rfl,by omega,rfl,?_⟩;dsimp only;rw [e2];exact H16.ordT 9 [0,4,5,6,7,8]
   | false=>
     rw [aa];refine ⟨.string (pl++k),by rw [aS,bD H11.get]; rfl,.string x,bQ (i:=1) H11 rfl,pl++k,x,rfl,?_⟩;refine aQ H11 fun b3 h12 H15=>?_;refine iW zI ox oT (H15.mv 3) (n:=1) (ys:=pairC (pl++k,x)) (bV (lm H15 rfl) rfl) (by intro u hu; simp [pairC] at hu; rcases hu with rfl | rfl <;> rfl) (by omega) fun a' c' h13 _ H16=>?_;rw [aF,hw];refine go _ _ ⟨rfl,by omega,rfl,?_⟩;dsimp only;rw [e2];exact H16.ordT 9 [0,4,5,6,7,8]
 · rintro ⟨⟨la,ll,lc⟩,s2⟩ h2 again ⟨rfl,_,hsl,H2⟩;dsimp only at hsl H2 ⊢;subst hsl;rw [ae (by omega),aa,aY];rw [ar (by omega)] at H2;obtain ⟨dm,nm,H3⟩:=gC (H2.mv 4);refine rh (x:=dm) H3 rfl ?_;refine (Du (F:=aL 50 2 la ll lc ((bo d).flatMap pairC)::aL 103 3 sa ll c (d.flatMap gk)::cD pa was::cD pb now::F) (c:=100) (v:=v) (ps:=bo d) (.inl ⟨rfl,rfl⟩) M6 rfl W hs hd ⟨f1,by rw [hpl]; exact f2,f3⟩ (fun h' hh=>aI hh) (by rw [hpl,hdn]) (H3.ordT 8 [0,1,2,7,3,4,5,6])).mono ?_;rintro r h3 ⟨rfl,W3,hs3,H4⟩;rw [aK];exact ⟨d,hD,rfl,W3,hs3,H4.ordT 6 [0,1,4,5]⟩
end
end Go.Proofs.YtibdiikcigokjaaGreat
