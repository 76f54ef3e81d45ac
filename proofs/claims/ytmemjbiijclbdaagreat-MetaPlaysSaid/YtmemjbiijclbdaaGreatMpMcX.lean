/- A log in a file system that is on and has no fuse: put,fold and opening anew (plain). -/
import Derived.Test.YtmemjbiijclbdaaGreatMpMaX
import Derived.Test.YtmemjbiijclbdaaGreatMpPlA
namespace Go.Proofs.YtmemjbiijclbdaaGreat
open Go.IntKind (wrap)
open Go.Proofs.Tryz (prog)
open List (foldl_append mem_append append_assoc take_append_drop map_append getElem?_map filter_cons find?_cons length_filter_le flatMap_append append_nil all_eq_true map_congr_left any_eq_true map_map nil_append cons_append getElem?_drop any_eq_false mem_cons_self filter_congr filter_append)
open Go Go.RowKit
set_option linter.unusedVariables false
set_option linter.unusedSimpArgs false
section
variable {α:Type}
theorem pM (p:Int→Bool):∀ (T:List (Int×α)) (k:Int),cg (T.filter fun q=>p q.1) k=if p k=true then cg T k else none
 | [],k=>by simp [cg]
 | q::T,k=>by
   have ih:=pM p T k;rw [filter_cons,cm];by_cases h:p q.1=true
   · rw [al h,cm,ih];by_cases e:q.1=k
     · rw [al e,al (by rw [← e]; exact h),al e]
     · rw [ak e,ak e]
   · rw [ak h,ih];by_cases e:q.1=k
     · rw [ak (by rw [← e]; exact h),ak (by rw [← e]; exact h)]
     · rw [ak e]
theorem qn {T U:List (Int×α)} (hT:gQ T) (hU:gQ U) (h:∀ k,cg T k=cg U k):T=U:=
 yx hT hU fun p=>⟨fun hp=>fM (by rw [← h]; exact cZ hT hp),fun hp=>fM (by rw [h]; exact cZ hU hp)⟩
theorem zU {p:Int×α→Bool} {T:List (Int×α)} (h:gQ T):gQ (T.filter p):=List.Pairwise.filter _ h
end
namespace AF
section
variable {α:Type}
theorem rx {T D:List (Int×α)} (h:gQ T):gQ (dq T D):=by
 unfold dq
 induction D generalizing T with
 | nil=>exact h
 | cons p D ih=>exact ih (il h)
theorem pf {D:List (Int×α)} (hD:gQ D):∀ (T:List (Int×α)) (k:Int),cg (dq T D) k=match cg D k with
  | some x=>some x
  | none=>cg T k:=by
 induction D with
 | nil=>intro T k; rfl
 | cons p D ih=>
   intro T k;have h2:=List.pairwise_cons.1 hD;show cg (dq (bR p.1 p.2 T) D) k=_;rw [ih h2.2,cm];by_cases e:p.1=k
   · rw [al e];have:cg D k=none:=ij.2 fun q hq e2=>by have:=h2.1 q hq; omega
     rw [this];simp only [];rw [← e,fQ]
   · rw [ak e]
     cases cg D k with
     | some x=>rfl
     | none=>exact gP _ e T
theorem kx (l:List Int):∀ a:Int,a≤l.foldl max a∧(∀ x∈l,x≤l.foldl max a)∧(l.foldl max a=a∨l.foldl max a∈l):=by
 induction l with
 | nil=>intro a; simp
 | cons y l ih=>
   intro a;obtain ⟨h1,h2,h3⟩:=ih (max a y);rw [List.foldl_cons];refine ⟨by omega,fun x hx=>?_,?_⟩
   · rcases ay.1 hx with rfl | hx
     · omega
     · exact h2 x hx
   · rcases h3 with h3 | h3
     · rw [h3];by_cases h:a≤y
       · right; rw [show max a y=y by omega]; exact mem_cons_self ..
       · left; omega
     · exact .inr (aB _ h3)
theorem Bg (T:List (Int×α)) : -1≤bm T:=(kx _ _).1
theorem gU {T:List (Int×α)} {p:Int×α} (h:p∈T):p.1≤bm T:=(kx _ _).2.1 _ (List.mem_map.2 ⟨p,h,rfl⟩)
theorem iT {T:List (Int×α)} (h : -1<bm T):∃ p∈T,p.1=bm T:=by
 rcases (kx (T.map (·.1)) (-1)).2.2 with h2 | h2
 · exact absurd (show bm T = -1 from h2) (by omega)
 · obtain ⟨p,hp,e⟩:=List.mem_map.1 h2;exact ⟨p,hp,e⟩
end
open Frame (dk)
open Fnm (nm)
section
variable {A:FS} {M:bA} {T:Jh}
theorem eS {α:Type} (k:Int) (x:α):∀ T:List (Int×α),(bR k x T).length≤T.length+1∧T.length≤(bR k x T).length
 | []=>by simp [bR]
 | p::l=>by
   have:=eS k x l;unfold bR;split
   · simp
   · split
     · simp
     · simp; omega
end
end AF
open Go Go.RowKit Go.MapKept
open AF (bA dq bm)
def Bb (_:Unit) (v:Value) (_:Heap):Prop:=v=.bool true
def fk (fb:Nat) (d:ByteArray) (s f m:Nat):Array Value:=#[aI fb,.string d,.map (some s),.map (some f),.map (some m)]
def cP (b fsb:Nat) (M:bA):aE:=mu fun q:Nat×Nat×Nat=>cr [pt b (.cells (fk fsb M.dir q.1 q.2.1 q.2.2) 82 (0,0)),bP Bs q.1 M.S,bP Bb q.2.1 M.Fo,bP Bs q.2.2 M.D]
theorem dF.push {h:Heap} {a:Option Addr} {xs:List Value} (H:dF h a xs) (o:Obj):dF (h.push o) a xs:=by
 cases a with
 | none=>exact H
 | some a=>
   intro j v hv;have h1:=H j v hv;unfold cz at h1 ⊢
   cases hb:h[(a.add j).block]? with
   | none=>rw [hb] at h1; cases h1
   | some x=>
     have hlt:=(Array.getElem?_eq_some_iff.1 hb).1;rw [Array.getElem?_push,ak (by omega),hb];rw [hb] at h1;exact h1
section
variable {F:List aE} {h:Heap} {b fsb:Nat} {M:bA}
theorem eO (H:aD (cP b fsb M::F) h):∃ s f m,aD (pt b (.cells (fk fsb M.dir s f m) 82 (0,0))::bP Bs s M.S::bP Bb f M.Fo::bP Bs m M.D::F) h:=by
 obtain ⟨⟨s,f,m⟩,H2⟩:=bg.1 H
 exact ⟨s,f,m,H2.open⟩
theorem dh {s f m:Nat} (H:aD (pt b (.cells (fk fsb M.dir s f m) 82 (0,0))::bP Bs s M.S::bP Bb f M.Fo::bP Bs m M.D::F) h):aD (cP b fsb M::F) h:=
 bg.2 ⟨(s,f,m),aD.shut (m:=[_,_,_,_]) H⟩
theorem lf {i:Nat} {c:Array Value} {e:TypeId} {fr:Nat×Nat} {x:Nat} {K:Option Nat→Prop} (H:aD (pt b (.cells c e fr)::F) h) (hv:c[i]? = some (.map (some x))) (hK:K (some x)):Ld h ((Addr.mk b 0 none).add i) fun v=>DM v K:=
 gA H hv (by rw [bY]; exact hK)
theorem mK {i:Nat} {c:Array Value} {e:TypeId} {fr:Nat×Nat} {x:Nat} {K:Option Addr→Prop} (H:aD (pt b (.cells c e fr)::F) h) (hv:c[i]? = some (aI x)) (hK:K (some ⟨x,0,none⟩)):Ld h ((Addr.mk b 0 none).add i) fun v=>DP v K:=
 gA H hv ⟨_,rfl,hK⟩
theorem nG {α:Type} {R:α→Value→Heap→Prop} {b:Nat} {T:List (Int×α)} (H:aD (bP R b T::F) h) (k:Int):∃ es f,dJ h (some b) es∧es.size=T.length∧Instr.findNow (.int .i64) (.int .i64 k) es.toList 0=some f∧
  ((f=none∧cg T k=none)∨∃ j v x,f=some (j,v)∧cg T k=some x∧R x v h):=by
 obtain ⟨m,H2⟩:=eg H
 obtain ⟨es,clock,hm,hes⟩:=fD H2
 obtain ⟨f,hf,hl,hcase⟩:=hm.find k
 have I:=eV (H2.mv 1)
 refine ⟨es,f,hes,?_,hf,?_⟩
 · rw [hm.size,I.length hm.nodup]
 · rcases I.look k with ⟨h1,h2⟩ | ⟨v,x,h1,h2,h3⟩
   · left;refine ⟨?_,h2⟩;rw [h1] at hl;exact Option.map_eq_none_iff.1 hl
   · right;rw [h1] at hl
     cases f with
     | none=>cases hl
     | some q=>
       obtain ⟨j,u⟩:=q;simp only [Option.map_some,Option.some.injEq] at hl;subst hl;exact ⟨j,u,x,rfl,h2,h3⟩
theorem wW {id:Int} (H:aD (cP b fsb M::F) h):aC prog 38 [aI b,.int .i64 id] h fun v h'=>h'=h∧((M.get id=none∧v=.tuple #[.slice none 0 0,.bool false])∨∃ x a c,M.get id=some x∧v=.tuple #[.slice a x.length c,.bool true]∧dF h a (x.map nv)):=by
 obtain ⟨s,f,m,H2⟩:=eO H
 apply Iw.ap
 unfold M5
 rw [aP]
 refine lf (x:=m) H2 rfl ?_
 obtain ⟨es,g,h1,_,h2,h3⟩:=nG (H2.mv 3) id
 refine ⟨es,h1,g,h2,?_⟩
 rcases h3 with ⟨rfl,h3⟩ | ⟨j,v,x,rfl,h3,a,c,rfl,hR⟩
 · simp only [Option.map_none,Option.getD_none,aF,Option.isSome_none,aa];rw [aP];refine lf (x:=s) H2 rfl ?_;obtain ⟨es,g,h1,_,h2,h4⟩:=nG (H2.mv 1) id;refine ⟨es,h1,g,h2,?_⟩;have hg:M.get id=cg M.S id:=by unfold AF.bA.get; rw [h3]
   rcases h4 with ⟨rfl,h4⟩ | ⟨j,v,x,rfl,h4,a,c,rfl,hR⟩
   · simp only [Option.map_none,Option.getD_none,aF,Option.isSome_none];exact ⟨by first | rfl | trivial,.inl ⟨by rw [hg,h4],by first | rfl | trivial⟩⟩
   · simp only [Option.map_some,Option.getD_some,aF,Option.isSome_some];exact ⟨by first | rfl | trivial,.inr ⟨x,a,c,by rw [hg,h4],by first | rfl | trivial,hR⟩⟩
 · simp only [Option.map_some,Option.getD_some,aF,Option.isSome_some,ab];have hg:M.get id=some x:=by unfold AF.bA.get; rw [h3]
   exact ⟨by first | rfl | trivial,.inr ⟨x,a,c,hg,by first | rfl | trivial,hR⟩⟩
theorem AZ:prog.underlying 31=some (.slice 5):=by kernel_rfl
theorem vu:fS prog 31=true:=by kernel_rfl
theorem pK:ig prog 5 1=true:=by kernel_rfl
theorem rL {a:Option Addr} {l c:Nat} {xs:List Nat} (hF:aD F h) (hR:dF h a (xs.map nv)) (hl:xs.length=l) (hm:l≤140737488355328) :
  aC prog 41 [.slice a l c] h fun v h'=>∃ a' c',v=.slice a' l c'∧aD (aL 5 1 a' l c' (xs.map nv)::F) h':=by
 apply It.ap
 unfold MY
 cases a with
 | none=>
   have h0:xs=[]:=List.map_eq_nil_iff.1 hR;subst h0;rw [show (none:Option Addr).isNone=true from rfl,ab];simp at hl;subst hl;exact ⟨none,0,rfl,bE 5 1 hF⟩
 | some a=>
   rw [show (some a).isNone=false from rfl,aa];unfold Al;dsimp only;have H1:aD (aL 5 1 (some ⟨h.size,0,none⟩) 0 0 (([]:List Nat).map nv)::F) (h.push (.cells #[] 5)):=fB (hF.push _) (bO _) (av _) (au _) rfl rfl;refine pj (xs:=[]) AZ vu pK H1 (rT (hR.push _) hl) (by omega) fun a' c' h2 _ H2=>?_;rw [aF];rw [Nat.zero_add,nil_append] at H2;exact ⟨a',c',by rw [Nat.zero_add],H2⟩
theorem C0 {a a2:Option Addr} {c l2 c2:Nat} {xs ys:List Nat} (h8:B8 xs) (h82:B8 ys) (hR:dF h a (xs.map nv)) (hR2:dF h a2 (ys.map nv)) (hl:ys.length=l2) :
  aC prog 39 [.slice a xs.length c,.slice a2 l2 c2] h fun v h'=>h'=h∧v=.bool (decide (xs=ys)):=by
 apply Iv.ap
 unfold M4
 refine ⟨bT xs,ct hR rfl h8,bT ys,ct hR2 hl h82,rfl,?_⟩
 rw [fZ,bM h8,bM h82]
theorem AV {α:Type} {R:α→Value→Heap→Prop} {T:List (Int×α)} {b:Nat} (H:aD (bP R b T::F) h):aC prog 103 [.map (some b)] h fun v h'=>∃ b',v=.map (some b')∧aD (bP R b' T::bP R b T::F) h':=by
 obtain ⟨m,H2⟩:=eg H
 obtain ⟨es,clock,hm,H3⟩:=cx H2
 refine ⟨by kernel_rfl,fun w hw=>callsIn_wide.2 ?_⟩
 subst hw
 refine (Tryz.maps_Clone103 b es clock w H3.get).mono ?_
 rintro e w' ⟨rfl,rfl⟩
 have H4:=H3.push (.map es clock)
 have H5:=nO (H4.mv 2)
 refine ⟨_,rfl,⟨w.heap.size,rfl,?_⟩,⟨rfl,rfl,rfl⟩⟩
 have H6:=cw hm (H5.mv 2)
 have H7:aD (bF (bN .i64) w.heap.size m::kh (dr R m T)::kh (dr R m T)::pt b (.map es clock)::F) (w.heap.push (.map es clock)):=H6
 have H8:=cw hm ((gj H7).mv 2)
 exact (gj (H8.ordT 3 [0,2,1])).mv 1
theorem lN {l m:List Int} (h:l.Perm m):l.foldl max (-1)=m.foldl max (-1):=by
 obtain ⟨a1,a2,a3⟩:=AF.kx l (-1)
 obtain ⟨b1,b2,b3⟩:=AF.kx m (-1)
 have e1:l.foldl max (-1)≤m.foldl max (-1):=by
  rcases a3 with e | e
  · rw [e]; exact b1
  · exact b2 _ (h.mem_iff.1 e)
 have e2:m.foldl max (-1)≤l.foldl max (-1):=by
  rcases b3 with e | e
  · rw [e]; exact a1
  · exact a2 _ (h.mem_iff.2 e)
 omega
theorem AU {T S:List (Int×List Nat)} {db sb:Nat} (H:aD (bP Bs db T::bP Bs sb S::F) h):aC prog 104 [.map (some db),.map (some sb)] h fun v h'=>v=.tuple #[]∧aD (bP Bs db (dq T S)::bP Bs sb S::F) h':=by
 have hT:=nH H
 obtain ⟨m,H2⟩:=eg (H.mv 1)
 obtain ⟨es,clock,hm,H3⟩:=cx H2
 have I:=eV (H3.mv 1)
 have hS:=I.up
 have hperm:=I.perm hm.nodup
 apply Gb.ap
 unfold LD
 refine eN (k:=2) (e:=31) (by kernel_rfl) H3 H3.get fun r h1 H4=>?_
 rw [bD]
 refine lE (mb:=sb) hm (fun _=>()) (G:=fun done=>[mu fun T':List (Int×List Nat)=>cr [iJ (∀ k,cg T' k=if k∈done.map (·.1) then cg S k else cg T k),bP Bs db T'],kh (dr Bs m S)]++F) ?_ ?_ ?_
 · -- r,sb,dr,db,F
   have H5:=H4.mv 3;have H6:aD ((mu fun T':List (Int×List Nat)=>cr [iJ (∀ k,cg T' k=if k∈([]:List (Int×Value)).map (·.1) then cg S k else cg T k),bP Bs db T'])::pt r (.mapIter (some sb) clock #[] clock)::pt sb (.map es clock)::kh (dr Bs m S)::F) h1:=
    bg.2 ⟨T,aD.shut (m:=[_,_]) (bh.2 ⟨fun k=>by simp,H5⟩)⟩
   exact H6.bk 2
 · intro done h2 hp H5;obtain ⟨T',H6⟩:=bg.1 (H5.mv 1);obtain ⟨hk,H7⟩:=bh.1 H6.open;refine ⟨rfl,?_⟩;have hT':=nH H7;have e:T'=dq T S:=by
    refine qn hT' (AF.rx hT) fun k=>?_;rw [hk,AF.pf hS];have h1:k∈done.map (·.1)↔k∈S.map (·.1):=(hp.map (·.1)).mem_iff.trans hperm.mem_iff
    cases hg:cg S k with
    | none=>
      have:k∉done.map (·.1):=fun hh=>by
       obtain ⟨p,hp2,e2⟩:=List.mem_map.1 (h1.1 hh);exact ij.1 hg p hp2 e2
      rw [ak this]
    | some x=>
      have:k∈done.map (·.1):=h1.2 (List.mem_map.2 ⟨_,fM hg,rfl⟩);rw [al this]
   subst e;have H8:aD (bP Bs db (dq T S)::pt sb (.map es clock)::kh (dr Bs m S)::F) h2:=H7;exact (gj (cw hm (H8.mv 1)|>.ordT 3 [0,2,1])).mv 1
 · rintro o done k v h2 again ⟨rest,hp⟩ H5 hag;obtain ⟨T',H6⟩:=bg.1 (H5.mv 2);obtain ⟨hk,H7⟩:=bh.1 H6.open;have hmem:(k,v)∈m:=hp.mem_iff.1 (by simp);have H8:=nO (H7.mv 3);have I2:=eV H8;obtain ⟨x,hx,a,c,rfl,hR⟩:=I2.vals k v hmem;refine ⟨k,a,x.length,c,rfl,?_⟩;have H9:=dX (S:=Bs x (.slice a x.length c)) (fun h I=>by
    obtain ⟨y,hy,hr⟩:=I.vals k _ hmem;have:y=x:=by
     have h1:=cZ hS hx;rw [cZ hS hy] at h1;cases h1
     rfl
    rw [← this] at hr ⊢;exact hr) H8
   refine mh (kt:=2) (et:=31) (x:=x) (by kernel_rfl) (by kernel_rfl) (H9.ordT 5 [2,0,3,4,1]) fun h3 H10=>?_;refine hag h3 ?_;have H11:aD ((mu fun T':List (Int×List Nat)=>cr [iJ (∀ j,cg T' j=if j∈(done++[(k,Value.slice a x.length c)]).map (·.1) then cg S j else cg T j),bP Bs db T'])::pt r o::pt sb (.map es clock)::kh (dr Bs m S)::F) h3:=by
    refine bg.2 ⟨bR k x T',aD.shut (m:=[_,_]) (bh.2 ⟨fun j=>?_,H10⟩)⟩;by_cases e:j=k
    · subst e;rw [fQ,al (by simp),cZ hS hx]
    · have hm2:j∈(done++[(k,Value.slice a x.length c)]).map (·.1)↔j∈done.map (·.1):=by
       rw [map_append,mem_append];exact ⟨fun h=>h.elim id fun h=>absurd (by simpa using h) e,.inl⟩
      rw [gP _ (Ne.symm e),hk];by_cases hj:j∈done.map (·.1)
      · rw [al hj,al (hm2.2 hj)]
      · rw [ak hj,ak fun h=>hj (hm2.1 h)]
   exact H11.bk 2
theorem l9 (H:aD (cP b fsb M::F) h):aC prog 42 [aI b] h fun v h'=>∃ eb,v=.map (some eb)∧aD (bP Bs eb M.entries::cP b fsb M::F) h':=by
 obtain ⟨s,f,m,H2⟩:=eO H
 apply Is.ap
 unfold MX
 rw [aP]
 refine lf (x:=s) H2 rfl ?_
 refine (AV (H2.mv 1)).mono ?_
 rintro v h1 ⟨eb,rfl,H3⟩
 rw [bY,aP]
 refine lf (x:=m) (H3.mv 2) rfl ?_
 refine (AU (H3.ordT 5 [0,4,2,1,3])).mono ?_
 rintro v h2 ⟨rfl,H4⟩
 refine ⟨rfl,eb,rfl,?_⟩
 exact (dh (H4.ordT 5 [2,3,4,1,0])).mv 1
theorem oD (H:aD (cP b fsb M::F) h):aC prog 33 [aI b] h fun v h'=>v=.int .i64 (bm M.Fo)∧aD (cP b fsb M::F) h':=by
 obtain ⟨s,f,m,H2⟩:=eO H
 apply IB.ap
 unfold Na
 rw [aP]
 refine lf (x:=f) H2 rfl ?_
 obtain ⟨ms,H3⟩:=eg (H2.mv 2)
 obtain ⟨es,clock,hm,H4⟩:=cx H3
 have I:=eV (H4.mv 1)
 refine eN (k:=2) (e:=4) (by kernel_rfl) H4 H4.get fun r h1 H5=>?_
 rw [bD]
 refine lE hm (fun done=>(done.map (·.1)).foldl max (-1)) (G:=fun _=>kh (dr Bb ms M.Fo)::pt b (.cells (fk fsb M.dir s f m) 82 (0,0))::bP Bs s M.S::bP Bs m M.D::F) H5 ?_ ?_
 · intro done h2 hp H6;refine ⟨?_,?_⟩
   · rw [lN ((hp.map (·.1)).trans (I.perm hm.nodup))]
     rfl
   · have H7:=gj (cw hm H6);exact dh (H7.ordT 4 [1,2,0,3])
 · rintro o done k v h2 again ⟨rest,hp⟩ H6 hag;refine ⟨k,v,rfl,?_⟩;have:=hag h2 H6;have e:((done++[(k,v)]).map (·.1)).foldl max (-1)=if k>(done.map (·.1)).foldl max (-1) then k else (done.map (·.1)).foldl max (-1):=by
    rw [map_append,foldl_append];show max _ k=_;split <;> omega
   rw [e] at this;exact this
end
open AF (bA dq bm cu)
open Hex (cU)
theorem fo (c:Nat) (n:Int):(cu c n).size=18:=AF.Fnm.Ei _ _
section
variable {F:List aE} {h:Heap} {b fsb:Nat} {M:bA} {A:AF.FS}
def yo (b fsb:Nat) (A:AF.FS) (k:Nat) (r:AF.FS×bA×Nat) (F:List aE) (v:Value) (h':Heap):Prop:=
 v=.int .i64 (r.2.2:Int)∧r.1.WF∧r.1.steps≤A.steps+k∧aD (cP b fsb r.2.1::co fsb r.1::F) h'
theorem oF {id:Int} {ba:Option Addr} {bl bc:Nat} {bs:List Nat} (W:A.WF) (hs:A.steps+10<1099511627776) (hd:M.dir.size<4611686018427387904) (h8M:∀ x,M.get id=some x→B8 x)
  (hr:∀ h',aD F h'→dF h' ba (bs.map nv)) (h8:B8 bs) (hl:bs.length=bl) (hlb:bl≤140737488355328) (H:aD (cP b fsb M::co fsb A::F) h) :
  aC prog 11 [aI b,.int .i64 id,.slice ba bl bc] h (yo b fsb A 6 (M.put A id bs) F):=by
 apply Jc.ap
 unfold Nt
 rw [show (some (⟨b,0,none⟩:Addr)).isNone=false from rfl,aa]
 by_cases h0:id<0
 · rw [af h0,ab];have e:M.put A id bs=(A,M,2):=by unfold AF.bA.put; rw [al (.inl h0)]
   rw [e];exact ⟨rfl,W,Nat.le_add_right _ _,H⟩
 rw [ae h0,aa]
 by_cases h1:id>1099511627776
 · rw [af h1,ab];have e:M.put A id bs=(A,M,2):=by unfold AF.bA.put; rw [al (.inr h1)]
   rw [e];exact ⟨rfl,W,Nat.le_add_right _ _,H⟩
 rw [ae h1,aa]
 have e0:¬ (id<0∨1099511627776<id):=by omega
 refine (wW (id:=id) H).mono ?_
 rintro v h1 ⟨rfl,⟨hg,rfl⟩ | ⟨x,a,c,hg,rfl,hR⟩⟩
 · refine ⟨none,0,0,false,rfl,?_⟩;rw [aa,aP];obtain ⟨s,f,m,H2⟩:=eO H;refine mK (x:=fsb) H2 rfl ?_;rw [aP];refine bI (x:=M.dir) H2 rfl ?_;refine (jy (n:=id) H2).mono ?_;rintro v h2 ⟨rfl,H3⟩;rw [aW];refine ⟨rfl,rfl,rfl,mK (x:=fsb) H3 rfl rfl,rfl,rfl,rfl,bI (x:=M.dir) H3 rfl rfl,rfl,?_,?_⟩
   · have:=fo 98 id;rw [show (cu 98 id).size=((⟨#[98,46]⟩:ByteArray)++bT (cU 16 (eY id))).size from rfl,ByteArray.size_append] at this;omega
   have H4:aD (co fsb A::pt b (.cells (fk fsb M.dir s f m) 82 (0,0))::bP Bs s M.S::bP Bb f M.Fo::bP Bs m M.D::F) h2:=H3.mv 4;have hr4:∀ h',aD (pt b (.cells (fk fsb M.dir s f m) 82 (0,0))::bP Bs s M.S::bP Bb f M.Fo::bP Bs m M.D::F) h'→dF h' ba (bs.map nv):=fun h' hh=>hr h' (hh.rest 4);refine (wV (bs:=bs) (name:=cu 98 id) W hs hd (by rw [fo]; decide) hr4 h8 hl (by omega) H4).mono ?_;rintro v h3 ⟨rfl,W3,hs3,H5⟩;rw [aJ];by_cases he:(A.put M.dir (cu 98 id) bs).2=0
   · have e:M.put A id bs=((A.put M.dir (cu 98 id) bs).1,{ M with S:=bR id bs M.S },0):=by
      unfold AF.bA.put;rw [ak e0,hg];simp only [];rw [al he]
     rw [e,he];rw [show (((0:Nat):Int)!=0)=false from rfl,aa,aP];have H6:=H5.mv 1;refine lf (x:=s) H6 rfl ?_;refine (rL H6 (hr _ (H6.rest 5)) hl hlb).mono ?_;rintro v h4 ⟨a',c',rfl,H7⟩;rw [aF];refine ⟨rfl,rfl,rfl,lf (x:=s) (H7.mv 1) rfl rfl,rfl,?_⟩;have H8:=dX (S:=Bs bs (.slice a' bl c')) (fun h hR=>⟨a',c',by rw [hl],hR⟩) (p8 H7);refine mh (kt:=2) (et:=31) (x:=bs) (by kernel_rfl) (by kernel_rfl) (H8.ordT 6 [3,0,1,2,4,5]) fun h5 H9=>?_;refine ⟨rfl,W3,hs3,?_⟩;exact dh (M:={ M with S:=bR id bs M.S }) (H9.ordT 5 [1,0,3,4,2])
   · have e:M.put A id bs=((A.put M.dir (cu 98 id) bs).1,M,(A.put M.dir (cu 98 id) bs).2):=by
      unfold AF.bA.put;rw [ak e0,hg];simp only [];rw [ak he]
     rw [e];rw [bo he,ab];exact ⟨rfl,W3,hs3,dh (H5.ordT 5 [1,2,3,4,0])⟩
 · refine ⟨a,x.length,c,true,rfl,?_⟩;rw [ab];refine (C0 (xs:=x) (ys:=bs) (h8M x hg) h8 hR (hr _ (H.rest 2)) hl).mono ?_;rintro v h2 ⟨rfl,rfl⟩;rw [cd];have e:M.put A id bs=(A,M,if x=bs then 0 else 90):=by
    unfold AF.bA.put;rw [ak e0,hg]
   rw [e];by_cases hx:x=bs
   · rw [af hx,az,aa,al hx];exact ⟨rfl,W,Nat.le_add_right _ _,H⟩
   · rw [ae hx,aA,ab,ak hx];exact ⟨rfl,W,Nat.le_add_right _ _,H⟩
theorem w6 {id:Int} (hm:∀ x,M.get id=some x→x.length≤140737488355328) (H:aD (cP b fsb M::F) h) :
  aC prog 15 [aI b,.int .i64 id] h fun v h'=>(M.get id=none∧v=.tuple #[.slice none 0 0,.int .i64 91]∧aD (cP b fsb M::F) h')∨
   ∃ x a c,M.get id=some x∧v=.tuple #[.slice a x.length c,.int .i64 0]∧aD (aL 5 1 a x.length c (x.map nv)::cP b fsb M::F) h':=by
 apply IX.ap
 unfold Np
 rw [show (some (⟨b,0,none⟩:Addr)).isNone=false from rfl,aa]
 refine (wW (id:=id) H).mono ?_
 rintro v h1 ⟨rfl,⟨hg,rfl⟩ | ⟨x,a,c,hg,rfl,hR⟩⟩
 · refine ⟨none,0,0,false,rfl,?_⟩;rw [aA,ab];exact .inl ⟨hg,rfl,H⟩
 · refine ⟨a,x.length,c,true,rfl,?_⟩;rw [az,aa];refine (rL H hR rfl (hm x hg)).mono ?_;rintro v h2 ⟨a',c',rfl,H2⟩;rw [aF];exact .inr ⟨x,a',c',hg,rfl,H2⟩
end
theorem iy {P:Program} {f:FuncId} {first cap:Array Value} {np:Nat} {h:Heap} {B:Nat→(LoopState→Option Code→Obj)→List Value→Heap→(Value→Heap→Prop)→Prop} {A:Option Code→Heap→Prop} {α:Type}
  (s:List α) (argsOf:α→List Value) (K:Nat→aE) (G:Nat→List aE) (X:Code→List aE) (H:aD (K 0::G 0) h) (hnp:∀ x,(argsOf x).length=np)
  (iter:∀ (yv:Value) (G':Nat→List aE) (Out:Heap→Prop) (h1:Heap),aD (K 0::G' 0) h1→
   (∀ i x h2,s[i]? = some x→aD (K i::G' i) h2→cB P yv (argsOf x) h2 fun r h3=>∃ go,r=.bool go∧(go=true→aD (K (i+1)::G' (i+1)) h3)∧(go=false→Out h3))→
   (∀ h2,aD (K s.length::G' s.length) h2→Out h2)→aC P f (first.toList++[yv]++cap.toList) h1 fun _ h'=>Out h')
  (round:∀ i x (L:Nat) (rec:LoopState→Option Code→Obj) (h2:Heap) (Q:Value→Heap→Prop),s[i]? = some x→aD (pt L (rec .ready none)::cK h.size::K i::G i) h2→
   (∀ h3,aD (pt L (rec .busy none)::cK h.size::K (i+1)::G (i+1)) h3→h3[L]? = some (rec .busy none)∧Q (.bool true) (h3.setIfInBounds L (rec .ready none)))→
   (∀ j h3,aD (pt L (rec .busy none)::cK h.size::X j) h3→h3[L]? = some (rec .busy none)∧Q (.bool false) (h3.setIfInBounds L (rec .done (some j))))→B L rec (argsOf x) h2 Q)
  (after:∀ h2,aD (cK h.size::K s.length::G s.length) h2→A none h2) (afterX:∀ j h2,aD (cK h.size::X j) h2→A (some j) h2) :
  dL P (.func (.func f) first cap) np none h B A:=by
 intro rec hrec hy
 refine jA ?_
 have H3:=(H.push (.deferred (some []))).push (rec .ready none)
 rw [Array.size_push] at H3
 refine (iter _ (fun i=>pt (h.size+1) (rec .ready none)::cK h.size::G i)
  (fun h2=>∃ st pend,h2[h.size+1]? = some (rec st pend)∧st≠.busy∧A pend (h2.setIfInBounds (h.size+1) (rec .exhausted pend))) _ (H3.mv 2) ?_ ?_).mono fun _ _ hh=>hh
 · intro i x h2 hx H2;refine gh ?_;have HL:=(H2.mv 1).get;have H4:aD (pt (h.size+1) (rec .ready none)::cK h.size::K i::G i) h2:=(H2.mv 2).mv 2;refine hy _ _ _ (hnp x) HL (round i x _ rec h2 _ hx H4 ?_ ?_)
   · intro h3 H3;refine ⟨H3.get,true,rfl,fun _=>?_,fun e=>by cases e⟩;exact (H3.set (rec .ready none)).mv 2
   · intro j h3 H3;refine ⟨H3.get,false,rfl,(fun e=>by cases e),fun _=>?_⟩;have H5:=H3.set (rec .done (some j));exact ⟨.done,some j,H5.get,by decide,afterX j _ (H5.set (rec .exhausted (some j))).drop⟩
 · intro h2 H2;have H5:=H2.mv 1;refine ⟨.ready,none,H5.get,by decide,after _ ?_⟩;exact (H5.set (rec .exhausted none)).drop.mv 1
section
variable {α:Type}
def cW (R:α→Value→Heap→Prop) (kb tb mb:Nat) (a:Option Addr) (c:Nat) (ty:TypeId) (s:List (Int×Value)) (i:Nat) (T:List (Int×α)):aE:=
 mu fun m:List (Int×Value)=>cr [ow kb tb mb a c ty (s.map (·.1)),iJ (∀ j k v,i≤j→s[j]? = some (k,v)→kp m k=some v),bF (bN .i64) mb m,kh (dr R m T)]
variable {R:α→Value→Heap→Prop} {kb tb mb c i:Nat} {a:Option Addr} {ty:TypeId} {s:List (Int×Value)} {T:List (Int×α)} {F:List aE} {h:Heap}
theorem fg (H:aD (cW R kb tb mb a c ty s i T::F) h):∃ m,(∀ j k v,i≤j→s[j]? = some (k,v)→kp m k=some v)∧aD (bF (bN .i64) mb m::ow kb tb mb a c ty (s.map (·.1))::kh (dr R m T)::F) h:=by
 obtain ⟨m,H2⟩:=bg.1 H
 obtain ⟨h1,H3⟩:=bh.1 (H2.open.mv 1)
 exact ⟨m,h1,H3.mv 1⟩
theorem jg {m:List (Int×Value)} (h1:∀ j k v,i≤j→s[j]? = some (k,v)→kp m k=some v) (H:aD (bF (bN .i64) mb m::ow kb tb mb a c ty (s.map (·.1))::kh (dr R m T)::F) h):aD (cW R kb tb mb a c ty s i T::F) h:=by
 have H2:aD (iJ (∀ j k v,i≤j→s[j]? = some (k,v)→kp m k=some v)::ow kb tb mb a c ty (s.map (·.1))::bF (bN .i64) mb m::kh (dr R m T)::F) h:=bh.2 ⟨h1,H.mv 1⟩
 exact bg.2 ⟨m,aD.shut (m:=[_,_,_,_]) (H2.mv 1)⟩
theorem kK (H:aD (cW R kb tb mb a c ty s i T::F) h):aD (cW R kb tb mb a c ty s (i+1) T::F) h:=by
 obtain ⟨m,h1,H2⟩:=fg H
 exact jg (fun j k v hj hs=>h1 j k v (by omega) hs) H2
theorem i2 (H:aD (cW R kb tb mb a c ty s i T::F) h):aD (bP R mb T::F) h:=by
 obtain ⟨m,h1,H2⟩:=fg H
 exact gj ((H2.mv 1).drop)
theorem g9 {k:Int} {v:Value} (H:aD (cW R kb tb mb a c ty s i T::F) h) (hs:s[i]? = some (k,v)):∃ x,cg T k=some x∧R x v h:=by
 obtain ⟨m,h1,H2⟩:=fg H
 have I:=eV (H2.mv 2)
 obtain ⟨x,hx,hr⟩:=I.vals k v (qX (h1 i k v (av _) hs))
 exact ⟨x,cZ I.up hx,hr⟩
theorem qF {k:Int} {v:Value} {x:α} (H:aD (cW R kb tb mb a c ty s i T::F) h) (hs:s[i]? = some (k,v)) (hx:cg T k=some x):aD (kh (R x v)::cW R kb tb mb a c ty s i T::F) h:=by
 obtain ⟨m,h1,H2⟩:=fg H
 have H3:=nO (H2.mv 2)
 have H4:=dX (S:=R x v) (fun h I=>by
  obtain ⟨y,hy,hr⟩:=I.vals k v (qX (h1 i k v (av _) hs));have:=cZ I.up hy;rw [hx] at this;cases this;exact hr) H3
 exact (jg h1 (H4.ordT 4 [2,3,1,0])).mv 1
theorem nX {s:List (Int×Value)} (hn:(s.map (·.1)).Nodup) {i j:Nat} {k k':Int} {v v':Value} (h1:s[i]? = some (k,v)) (h2:s[j]? = some (k',v')) (hij:i<j):k'≠k:=by
 intro e
 have a1:(s.map (·.1))[i]? = some k:=by rw [getElem?_map,h1]; rfl
 have a2:(s.map (·.1))[j]? = some k:=by rw [getElem?_map,h2,← e]; rfl
 obtain ⟨b1,c1⟩:=aj.1 a1
 obtain ⟨b2,c2⟩:=aj.1 a2
 have:=List.pairwise_iff_getElem.1 hn i j b1 b2 hij
 rw [c1,c2] at this
 exact this rfl
theorem El {m:List (Int×Value)} {k k':Int} (h:k'≠k):kp (iX m k) k'=kp m k':=by
 unfold kp iX
 congr 1
 induction m with
 | nil=>rfl
 | cons p m ih=>
   rw [filter_cons];by_cases e:p.1=k
   · have e2:¬ p.1=k':=fun e2=>h (by rw [← e2,e]);simp only [e,decide_true,az,Bool.false_eq_true,if_false,find?_cons];rw [ih];have:decide (k=k')=false:=ae (Ne.symm h);rw [this]
   · simp only [e,decide_false,aA,if_true,find?_cons];rw [ih]
theorem Ej {m:List (Int×Value)} {k k':Int} {v:Value} (hn:((gt m k v).map (·.1)).Nodup) (hn2:(m.map (·.1)).Nodup) (h:k'≠k) {u:Value} (hl:kp m k'=some u):kp (gt m k v) k'=some u:=by
 have h1:=qX hl
 have h2:(k',u)∈gt m k v:=nD.2 (.inr ⟨h,h1⟩)
 cases he:kp (gt m k v) k' with
 | none=>exact absurd (List.mem_map.2 ⟨_,h2,rfl⟩) (BW he)
 | some w=>
   have h3:=qX he;have:(k',w)=(k',u):=by
    obtain ⟨i,hi⟩:=List.mem_iff_getElem?.1 h3;obtain ⟨j,hj⟩:=List.mem_iff_getElem?.1 h2
    rcases Nat.lt_trichotomy i j with hh | hh | hh
    · exact absurd rfl (nX hn hi hj hh)
    · subst hh; rw [hi] at hj; cases hj; rfl
    · exact absurd rfl (nX hn hj hi hh)
   cases this
   rfl
theorem sv {P:Program} {ty1 ty2 kt et t:TypeId} {k:Int} {v:Value} {K:Value→Heap→Prop} (hT:P.underlying ty1=some (.map kt et)) (hd:P.underlying kt=some (.int .i64)) (hn:(s.map (·.1)).Nodup) (hs:s[i]? = some (k,v)) (H:aD (cW R kb tb mb a c ty s i T::F) h)
  (hK:∀ h',aD (cW R kb tb mb a c ty s (i+1) (ru k T)::F) h'→K (.tuple #[]) h'):aX P (Builtin.delete_ #[ty1,ty2] t #[.map (some mb),.int .i64 k]) h K:=by
 obtain ⟨m,h1,H2⟩:=fg H
 refine nw (E:=bN .i64) (k:=k) hT hd H2 fun h' H3=>hK h' (jg (m:=iX m k) (fun j k' v' hj hs'=>?_) ?_)
 · rw [El (nX hn hs hs' (by omega))];exact h1 j k' v' (by omega) hs'
 · exact (dX (fun _ hh=>hh.del k) (H3.mv 2)).bk 2
theorem zu {P:Program} {ty1 kt et:TypeId} {k:Int} {v u:Value} {x:α} {K:Heap→Prop} (hT:P.underlying ty1=some (.map kt et)) (hd:P.underlying kt=some (.int .i64)) (hn:(s.map (·.1)).Nodup) (hs:s[i]? = some (k,v)) (H:aD (cW R kb tb mb a c ty s i T::kh (R x u)::F) h)
  (hK:∀ h',aD (cW R kb tb mb a c ty s (i+1) (bR k x T)::F) h'→K h'):fW P (Instr.mapUpdate ty1 (.map (some mb)) (.int .i64 k) u) h K:=by
 obtain ⟨m,h1,H2⟩:=fg H
 have hm:=jk H2
 refine fP (E:=bN .i64) (k:=k) hT hd H2 fun h' H3=>hK h' (jg (m:=gt m k u) (fun j k' v' hj hs'=>?_) ?_)
 · exact Ej (jk H3) hm (nX hn hs hs' (by omega)) (h1 j k' v' (by omega) hs')
 · -- m,Rise,dr,R,F
   exact (dX (fun _ hh=>hh.1.set hh.2) (yA (H3.ordT 4 [2,3,0,1]))).bk 2
theorem pA {m:List (Int×Value)} (H:aD (ow kb tb mb a c ty (fj (m.map (·.1)))::bF (bN .i64) mb m::kh (dr R m T)::F) h) :
  ∃ s:List (Int×Value),s.map (·.1)=T.map (·.1)∧(s.map (·.1)).Nodup∧aD (cW R kb tb mb a c ty s 0 T::F) h:=by
 have I:=eV (H.mv 2)
 have hn:=jk (H.mv 1)
 have e:fj (m.map (·.1))=T.map (·.1):=Bq (I.perm hn) (List.pairwise_map.2 I.up)
 have hs:(T.map fun p=>(p.1,(kp m p.1).getD (.bool false))).map (·.1)=T.map (·.1):=by
  rw [map_map]
  rfl
 refine ⟨T.map fun p=>(p.1,(kp m p.1).getD (.bool false)),hs,by rw [hs]; exact I.up.nodup,?_⟩
 rw [e,← hs] at H
 refine jg (fun j k v _ hj=>?_) (H.mv 1)
 rw [getElem?_map] at hj
 cases hT:T[j]? with
 | none=>rw [hT] at hj; cases hj
 | some p=>
   rw [hT] at hj;simp only [Option.map_some,Option.some.injEq,Prod.mk.injEq] at hj;obtain ⟨rfl,rfl⟩:=hj
   rcases I.look p.1 with ⟨_,h2⟩ | ⟨v,x,h1,_,_⟩
   · exact absurd rfl (ij.1 h2 p (ai hT))
   · rw [h1]
     rfl
end
theorem mE {α:Type} {R:α→Value→Heap→Prop} {kb tb mb:Nat} {a:Option Addr} {c:Nat} {s:List (Int×Value)} (hlen:s.length<1099511627776) (Ts:Nat→List (Int×α)) (hv:∀ x (v:Value) h,R x v h→∃ (a:Option Addr) (l c:Nat),v=.slice a l c)
  (yv:Value) (G:Nat→List aE) (Out:Heap→Prop) (h1:Heap) (H:aD (cW R kb tb mb a c 78 s 0 (Ts 0)::G 0) h1)
  (round:∀ i x h2,s[i]? = some x→aD (cW R kb tb mb a c 78 s i (Ts i)::G i) h2→cB prog yv [.int .i64 x.1,x.2] h2 fun r h3=>∃ go,r=.bool go∧(go=true→aD (cW R kb tb mb a c 78 s (i+1) (Ts (i+1))::G (i+1)) h3)∧(go=false→Out h3))
  (fin:∀ h2,aD (cW R kb tb mb a c 78 s s.length (Ts s.length)::G s.length) h2→Out h2) :
  aC prog 100 [yv,.pointer (some ⟨kb,0,none⟩),.pointer (some ⟨tb,0,none⟩)] h1 fun _ h'=>Out h':=by
 apply Gd.ap
 unfold LF
 have hsl:(s.map (·.1)).length=s.length:=an _
 obtain ⟨m0,_,H0⟩:=fg H
 have H0':=(H0.mv 1).open
 refine ⟨.slice a (s.map (·.1)).length c,by rw [bj H0'.get]; rfl,?_⟩
 show aT (.slice a (s.map (·.1)).length c) _
 rw [aF,hsl]
 refine aZ.upto s.length (fun i (s0:Int) h2=>s0=(i:Int)∧i≤s.length∧aD (cW R kb tb mb a c 78 s i (Ts i)::G i) h2) (fun s0=>s.length - s0.toNat) (fun i s0 h2 hh=>⟨hh.2.1,by rw [hh.1]; omega⟩) ⟨rfl,au _,H⟩ ?_ ?_
 · rintro i s0 h2 again hi ⟨rfl,_,H2⟩ go;rw [af (show ((i:Int)<(s.length:Int)) by omega),ab];obtain ⟨⟨k,v⟩,hx⟩:∃ x,s[i]? = some x:=⟨_,ah hi⟩
   have hki:(s.map (·.1))[i]? = some k:=by rw [getElem?_map,hx]; rfl
   obtain ⟨x,_,hR⟩:=g9 H2 hx;obtain ⟨m,hl,H3⟩:=fg H2;have H4:=(H3.mv 1).open;refine cf (v:=iv k) (aH (H4.mv 2)) (by rw [an,hsl]) (by rw [getElem?_map,hki]; rfl) fun b hb hc=>?_;refine ⟨iv k,hc,k,rfl,?_⟩;refine ⟨.map (some mb),by rw [bj (H4.mv 1).get]; rfl,?_⟩;show DM (.map (some mb)) _;rw [bY];obtain ⟨es,clock,hm,hes⟩:=fD H3;obtain ⟨f,hf,hl2,_⟩:=hm.find k;refine ⟨es,hes,f,hf,?_⟩;have e1:Option.map (fun x:Nat×Value=>x.2) f=some v:=by
    rw [← hl i k v (av _) hx];exact hl2
   rw [e1];simp only [Option.getD_some];obtain ⟨va,vl,vc,rfl⟩:=hv x v h2 hR;rw [aF];refine (round i (k,_) h2 hx H2).mono ?_;rintro r h3 ⟨g,rfl,hg,hs⟩;rw [cd]
   cases g with
   | true=>
     rw [az,aa,aK (by omega)];exact go _ _ ⟨rfl,by omega,hg rfl⟩
   | false=>
     rw [aA,ab];exact hs rfl
 · rintro s0 h2 again ⟨rfl,_,H2⟩;rw [ae (by omega),aa];exact fin h2 H2
theorem oC {α:Type} {R:α→Value→Heap→Prop} {mb:Nat} {T:List (Int×α)} {h:Heap} {F:List aE} (H:aD (bP R mb T::F) h) (hmax:T.length<1099511627776) :
  aC prog 37 [.map (some mb)] h fun v h'=>∃ (kb tb:Nat) (a:Option Addr) (c:Nat) (s:List (Int×Value)),v=.func (.func 100) #[] #[.pointer (some ⟨kb,0,none⟩),.pointer (some ⟨tb,0,none⟩)]∧
   s.map (·.1)=T.map (·.1)∧(s.map (·.1)).Nodup∧aD (cW R kb tb mb a c 78 s 0 T::F) h':=by
 obtain ⟨m,H2⟩:=eg H
 have hl:=(eV (H2.mv 1)).length (jk H2)
 refine (C1 H2 (by omega)).mono ?_
 rintro v h1 ⟨kb,tb,a,c,rfl,H3⟩
 obtain ⟨s,h1,h2,H4⟩:=pA H3
 exact ⟨kb,tb,a,c,s,rfl,h1,h2,H4⟩
theorem Ax {α:Type} {R:α→Value→Heap→Prop} {kb tb mb:Nat} {a:Option Addr} {c:Nat} {s:List (Int×Value)} (hlen:s.length<1099511627776) (Ts:Nat→List (Int×α)) (hv:∀ x (v:Value) h,R x v h→∃ b:Bool,v=.bool b)
  (yv:Value) (G:Nat→List aE) (Out:Heap→Prop) (h1:Heap) (H:aD (cW R kb tb mb a c 80 s 0 (Ts 0)::G 0) h1)
  (round:∀ i x h2,s[i]? = some x→aD (cW R kb tb mb a c 80 s i (Ts i)::G i) h2→cB prog yv [.int .i64 x.1,x.2] h2 fun r h3=>∃ go,r=.bool go∧(go=true→aD (cW R kb tb mb a c 80 s (i+1) (Ts (i+1))::G (i+1)) h3)∧(go=false→Out h3))
  (fin:∀ h2,aD (cW R kb tb mb a c 80 s s.length (Ts s.length)::G s.length) h2→Out h2) :
  aC prog 164 [yv,.pointer (some ⟨kb,0,none⟩),.pointer (some ⟨tb,0,none⟩)] h1 fun _ h'=>Out h':=by
 apply Fs.ap
 unfold KY
 have hsl:(s.map (·.1)).length=s.length:=an _
 obtain ⟨m0,_,H0⟩:=fg H
 have H0':=(H0.mv 1).open
 refine ⟨.slice a (s.map (·.1)).length c,by rw [bj H0'.get]; rfl,?_⟩
 show aT (.slice a (s.map (·.1)).length c) _
 rw [aF,hsl]
 refine aZ.upto s.length (fun i (s0:Int) h2=>s0=(i:Int)∧i≤s.length∧aD (cW R kb tb mb a c 80 s i (Ts i)::G i) h2) (fun s0=>s.length - s0.toNat) (fun i s0 h2 hh=>⟨hh.2.1,by rw [hh.1]; omega⟩) ⟨rfl,au _,H⟩ ?_ ?_
 · rintro i s0 h2 again hi ⟨rfl,_,H2⟩ go;rw [af (show ((i:Int)<(s.length:Int)) by omega),ab];obtain ⟨⟨k,v⟩,hx⟩:∃ x,s[i]? = some x:=⟨_,ah hi⟩
   have hki:(s.map (·.1))[i]? = some k:=by rw [getElem?_map,hx]; rfl
   obtain ⟨x,_,hR⟩:=g9 H2 hx;obtain ⟨m,hl,H3⟩:=fg H2;have H4:=(H3.mv 1).open;refine cf (v:=iv k) (aH (H4.mv 2)) (by rw [an,hsl]) (by rw [getElem?_map,hki]; rfl) fun b hb hc=>?_;refine ⟨iv k,hc,k,rfl,?_⟩;refine ⟨.map (some mb),by rw [bj (H4.mv 1).get]; rfl,?_⟩;show DM (.map (some mb)) _;rw [bY];obtain ⟨es,clock,hm,hes⟩:=fD H3;obtain ⟨f,hf,hl2,_⟩:=hm.find k;refine ⟨es,hes,f,hf,?_⟩;have e1:Option.map (fun x:Nat×Value=>x.2) f=some v:=by
    rw [← hl i k v (av _) hx];exact hl2
   rw [e1];simp only [Option.getD_some];obtain ⟨vb,rfl⟩:=hv x v h2 hR;rw [cd];refine (round i (k,_) h2 hx H2).mono ?_;rintro r h3 ⟨g,rfl,hg,hs⟩;rw [cd]
   cases g with
   | true=>
     rw [az,aa,aK (by omega)];exact go _ _ ⟨rfl,by omega,hg rfl⟩
   | false=>
     rw [aA,ab];exact hs rfl
 · rintro s0 h2 again ⟨rfl,_,H2⟩;rw [ae (by omega),aa];exact fin h2 H2
theorem AQ {α:Type} {R:α→Value→Heap→Prop} {mb:Nat} {T:List (Int×α)} {h:Heap} {F:List aE} (H:aD (bP R mb T::F) h) (hmax:T.length<1099511627776) :
  aC prog 109 [.map (some mb)] h fun v h'=>∃ (kb tb:Nat) (a:Option Addr) (c:Nat) (s:List (Int×Value)),v=.func (.func 164) #[] #[.pointer (some ⟨kb,0,none⟩),.pointer (some ⟨tb,0,none⟩)]∧
   s.map (·.1)=T.map (·.1)∧(s.map (·.1)).Nodup∧aD (cW R kb tb mb a c 80 s 0 T::F) h':=by
 obtain ⟨m,H2⟩:=eg H
 have hl:=(eV (H2.mv 1)).length (jk H2)
 refine (AP H2 (by omega)).mono ?_
 rintro v h1 ⟨kb,tb,a,c,rfl,H3⟩
 obtain ⟨s,h1,h2,H4⟩:=pA H3
 exact ⟨kb,tb,a,c,s,rfl,h1,h2,H4⟩
open AF (bA dq bm cu fY)
namespace AF
section
variable {α:Type} {dir:ByteArray} {c:Nat} {p:Int→Bool}
theorem ob {n:Int} {l:List Int} {A:FS} {T:List (Int×α)} {s:Bool} (hp:p n=true) (he:(A.remove dir (cu c n)).2=0):fY dir c p (n::l) A T s=fY dir c p l (A.remove dir (cu c n)).1 (ru n T) true:=by
 conv=>lhs; unfold fY
 rw [al hp,al he]
theorem pL {n:Int} {l:List Int} {A:FS} {T:List (Int×α)} {s:Bool} (hp:p n=true) (he:¬ (A.remove dir (cu c n)).2=0):fY dir c p (n::l) A T s=((A.remove dir (cu c n)).1,T,s,(A.remove dir (cu c n)).2):=by
 conv=>lhs; unfold fY
 rw [al hp,ak he]
theorem n9 {n:Int} {l:List Int} {A:FS} {T:List (Int×α)} {s:Bool} (hp:¬ p n=true):fY dir c p (n::l) A T s=fY dir c p l A T s:=by
 conv=>lhs; unfold fY
 rw [ak hp]
theorem kw:∀ (l m:List Int) (A:FS) (T:List (Int×α)) (s:Bool),(fY dir c p l A T s).2.2.2≠0→fY dir c p (l++m) A T s=fY dir c p l A T s
 | [],m,A,T,s,h=>absurd rfl h
 | n::l,m,A,T,s,h=>by
   rw [cons_append];by_cases hp:p n=true
   · by_cases he:(A.remove dir (cu c n)).2=0
     · rw [ob hp he] at h ⊢;rw [ob hp he];exact kw l m _ _ _ h
     · rw [pL hp he,pL hp he]
   · rw [n9 hp] at h ⊢;rw [n9 hp];exact kw l m _ _ _ h
theorem kv:∀ (l m:List Int) (A:FS) (T:List (Int×α)) (s:Bool),(fY dir c p l A T s).2.2.2=0→fY dir c p (l++m) A T s=fY dir c p m (fY dir c p l A T s).1 (fY dir c p l A T s).2.1 (fY dir c p l A T s).2.2.1
 | [],m,A,T,s,h=>rfl
 | n::l,m,A,T,s,h=>by
   rw [cons_append];by_cases hp:p n=true
   · by_cases he:(A.remove dir (cu c n)).2=0
     · rw [ob hp he] at h ⊢;rw [ob hp he];exact kv l m _ _ _ h
     · rw [pL hp he] at h;exact absurd h he
   · rw [n9 hp] at h ⊢;rw [n9 hp];exact kv l m _ _ _ h
theorem jZ:∀ (l:List Int) (A:FS) (T:List (Int×α)) (s:Bool),A.WF→(fY dir c p l A T s).1.WF∧(fY dir c p l A T s).1.steps≤A.steps+l.length
 | [],A,T,s,W=>⟨W,av _⟩
 | n::l,A,T,s,W=>by
   unfold fY;by_cases hp:p n=true
   · rw [al hp];have h1:=kL (A:=A) dir (cu c n);by_cases he:(A.remove dir (cu c n)).2=0
     · rw [al he];obtain ⟨a,b⟩:=jZ l (A.remove dir (cu c n)).1 (ru n T) true (W.remove _ _);exact ⟨a,by rw [ao]; omega⟩
     · rw [ak he];exact ⟨W.remove _ _,by rw [ao]; simp only []; omega⟩
   · rw [ak hp];obtain ⟨a,b⟩:=jZ l A T s W;exact ⟨a,by rw [ao]; omega⟩
end
end AF
section
variable {α:Type}
abbrev Ah (α:Type):=AF.FS×List (Int×α)×Bool×Nat
def vF (b0 b1 b2 b3 b fsb:Nat) (gv:Value) (lc:Array Value) (X Y C:aE) (k:Nat) (F:List aE) (st:Ah α):List aE:=
 iJ (st.2.2.2=0∧st.1.WF∧st.1.steps≤k)::pt b0 (.cells #[aI b] 27 (0,0))::pt b1 (.cells #[gv] 101 (0,0))::pt b2 (.cells #[.int .i64 0] 24 (0,0))::pt b3 (.cells #[.bool st.2.2.1] 4 (0,0))::pt b (.cells lc 82 (0,0))::X::Y::co fsb st.1::C::F
def D8 (R:α→Value→Heap→Prop) (mb b0 b1 b2 b3 b fsb:Nat) (gv:Value) (lc:Array Value) (X Y C:aE) (k:Nat) (F:List aE) (st:Ah α) (j:Code):List aE:=
 iJ (st.2.2.2≠0∧st.1.WF∧st.1.steps≤k∧j=.ret)::bP R mb st.2.1::pt b0 (.cells #[aI b] 27 (0,0))::pt b1 (.cells #[gv] 101 (0,0))::pt b2 (.cells #[.int .i64 (st.2.2.2:Int)] 24 (0,0))::pt b3 (.cells #[.bool st.2.2.1] 4 (0,0))::pt b (.cells lc 82 (0,0))::X::Y::co fsb st.1::C::F
theorem lm {h:Heap} {b x:Nat} {e:TypeId} {fr:Nat×Nat} {K:Option Addr→Prop} (hb:h[b]? = some (.cells #[aI x] e fr)) (hK:K (some ⟨x,0,none⟩)):Ld h ⟨b,0,none⟩ fun v=>DP v K:=gJ hb rfl ⟨_,rfl,hK⟩
theorem pS {h:Heap} {b:Nat} {e:TypeId} {fr:Nat×Nat} {k:IntKind} {x:Int} {K:Int→Prop} (hb:h[b]? = some (.cells #[.int k x] e fr)) (hK:K x):Ld h ⟨b,0,none⟩ fun v=>DI k v K:=gJ hb rfl ⟨_,rfl,hK⟩
theorem Mk {h:Heap} {b:Nat} {e:TypeId} {fr:Nat×Nat} {x:Bool} {K:Bool→Prop} (hb:h[b]? = some (.cells #[.bool x] e fr)) (hK:K x):Ld h ⟨b,0,none⟩ fun v=>DB v K:=gJ hb rfl ⟨_,rfl,hK⟩
theorem Ju {h:Heap} {b:Nat} {e:TypeId} {fr:Nat×Nat} {x:ByteArray} {K:ByteArray→Prop} (hb:h[b]? = some (.cells #[.string x] e fr)) (hK:K x):Ld h ⟨b,0,none⟩ fun v=>DS v K:=gJ hb rfl ⟨_,rfl,hK⟩
theorem NG {h:Heap} {b x:Nat} {e:TypeId} {fr:Nat×Nat} {K:Option Nat→Prop} (hb:h[b]? = some (.cells #[.map (some x)] e fr)) (hK:K (some x)):Ld h ⟨b,0,none⟩ fun v=>DM v K:=gJ hb rfl ⟨_,rfl,hK⟩
theorem xh {h:Heap} {b:Nat} {e:TypeId} {fr:Nat×Nat} {a:Option Addr} {l m:Nat} {K:Option Addr→Nat→Nat→Prop} (hb:h[b]? = some (.cells #[.slice a l m] e fr)) (hK:K a l m):Ld h ⟨b,0,none⟩ fun v=>aT v K:=gJ hb rfl (by show aT (.slice a l m) K; rw [aF]; exact hK)
end
theorem ou (x:List Nat) (v:Value) (h:Heap) (H:Bs x v h):∃ (a:Option Addr) (l c:Nat),v=.slice a l c:=let ⟨a,c,e,_⟩:=H; ⟨a,_,c,e⟩
theorem EJ (x:Unit) (v:Value) (h:Heap) (H:Bb x v h):∃ b:Bool,v=.bool b:=⟨true,H⟩
section
variable {F:List aE} {h:Heap} {b fsb:Nat} {M:bA} {A:AF.FS}
set_option maxHeartbeats 1000000 in
theorem wU {gf:Fn} {gp gc:Array Value} {p:Nat→Int→Bool} {C:aE} (hg:∀ (c:Nat) (n:Int) (F':List aE) (h':Heap),(c=98∨c=102)→aD (C::F') h'→cB prog (.func gf gp gc) [.int .u8 (c:Int),.int .i64 n] h' fun v h''=>v=.bool (p c n)∧h''=h')
  (W:A.WF) (hs:A.steps+M.S.length+M.Fo.length+10<1099511627776) (hd:M.dir.size<4611686018427387904) (H:aD (cP b fsb M::co fsb A::C::F) h) :
  aC prog 44 [aI b,.func gf gp gc] h (yo b fsb A (M.S.length+M.Fo.length+1) (M.remove A p) (C::F)):=by
 apply Iq.ap
 unfold MV
 refine aQ H fun b0 h1 H1=>?_
 refine aQ H1 fun b1 h2 H2=>?_
 refine aQ H2 fun b2 h3 H3=>?_
 refine aQ H3 fun b3 h4 H4=>?_
 refine bQ H4 (by decide) rfl fun h5 H5=>?_
 obtain ⟨ms,mf,mm,H6⟩:=eO (H5.mv 4)
 refine lm (H6.mv 7).get ?_
 rw [aP]
 refine lf (x:=ms) H6 rfl ?_
 refine (oC (H6.mv 1) (by omega)).mono ?_
 rintro v h6 ⟨kb,tb,a,c,s,rfl,hsk,hnd,H7⟩
 have hsl:s.length=M.S.length:=by
  have:=congrArg List.length hsk;simpa using this
 refine ⟨_,rfl,?_⟩
 let St:Nat→Ah (List Nat):=fun i=>fY M.dir 98 (p 98) ((M.S.map (·.1)).take i) A M.S false
 let Rs:Ah (List Nat):=fY M.dir 98 (p 98) (M.S.map (·.1)) A M.S false
 have hRs:St s.length=Rs:=by
  show fY _ _ _ ((M.S.map (·.1)).take s.length) _ _ _=_;rw [ar (by rw [an]; omega)]
 have H8:aD (cW Bs kb tb ms a c 78 s 0 (St 0).2.1::vF b0 b1 b2 b3 b fsb (.func gf gp gc) (fk fsb M.dir ms mf mm) (bP Bb mf M.Fo) (bP Bs mm M.D) C (A.steps+s.length) F (St 0)) h6:=
  (bh.2 ⟨⟨rfl,W,Nat.le_add_right _ _⟩,H7.ordT 10 [0,7,6,5,4,1,2,3,8,9]⟩:aD (iJ _::_) h6).bk 1
 have hRwf:=AF.jZ (dir:=M.dir) (c:=98) (p:=p 98) (M.S.map (·.1)) A M.S false W
 have WR:Rs.1.WF:=hRwf.1
 have hRst:Rs.1.steps≤A.steps+M.S.length:=by have:=hRwf.2; rw [an] at this; exact this
 refine iy s (fun x=>[.int .i64 x.1,x.2]) (fun i=>cW Bs kb tb ms a c 78 s i (St i).2.1) (fun i=>vF b0 b1 b2 b3 b fsb (.func gf gp gc) (fk fsb M.dir ms mf mm) (bP Bb mf M.Fo) (bP Bs mm M.D) C (A.steps+s.length) F (St i))
  (fun j=>D8 Bs ms b0 b1 b2 b3 b fsb (.func gf gp gc) (fk fsb M.dir ms mf mm) (bP Bb mf M.Fo) (bP Bs mm M.D) C (A.steps+s.length) F Rs j) H8 (fun _=>rfl)
  (fun yv G' Out h1 hh r f=>mE (by omega) (fun i=>(St i).2.1) ou yv G' Out h1 hh r f) ?_ ?_ ?_
 · -- a round
   intro i x L rec h2 Q hx H2 hgo hstop;obtain ⟨n,v⟩:=x;have hi:=(aj.1 hx).1;have HL:=H2.get;obtain ⟨⟨he,Wi,hsi⟩,H3⟩:=bh.1 (H2.mv 3);have hn:(M.S.map (·.1))[i]? = some n:=by rw [← hsk,getElem?_map,hx]; rfl
   have htake:(M.S.map (·.1)).take (i+1)=(M.S.map (·.1)).take i++[n]:=by rw [ax,hn]; rfl
   have hst:St (i+1)=fY M.dir 98 (p 98) [n] (St i).1 (St i).2.1 (St i).2.2.1:=by
    show fY _ _ _ ((M.S.map (·.1)).take (i+1)) _ _ _=_;rw [htake];exact AF.kv _ _ _ _ _ he
   obtain ⟨x,_,va,vc,rfl,_⟩:=g9 (H3.mv 2) hx;refine ⟨n,va,x.length,vc,rfl,HL,?_⟩;have H4:=H3.set (rec .busy none);refine ⟨.func gf gp gc,by rw [bj (H4.mv 4).get]; rfl,.func gf gp gc,rfl,?_⟩;refine (hg 98 n _ _ (.inl rfl) (H4.mv 11)).mono ?_;rintro v h3 ⟨rfl,rfl⟩;rw [cd];by_cases hp:p 98 n=true
   · rw [hp,ab];refine lm (H4.mv 3).get ?_;rw [aP];refine mK (x:=fsb) (H4.mv 7) rfl ?_;refine lm (H4.mv 3).get ?_;rw [aP];refine bI (x:=M.dir) (H4.mv 7) rfl ?_;refine (jy (n:=n) H4).mono ?_;rintro v h3 ⟨rfl,H5⟩;rw [aW];refine ⟨lm (H5.mv 3).get rfl,rfl,rfl,mK (x:=fsb) (H5.mv 7) rfl rfl,lm (H5.mv 3).get rfl,rfl,rfl,bI (x:=M.dir) (H5.mv 7) rfl rfl,?_,?_⟩
     · have:=fo 98 n;rw [show (cu 98 n).size=((⟨#[98,46]⟩:ByteArray)++bT (cU 16 (eY n))).size from rfl,ByteArray.size_append] at this;omega
     refine (l5 (k:=cu 98 n) Wi (by omega) hd (by rw [fo]; decide) (H5.mv 10)).mono ?_;rintro v h4 ⟨rfl,H6⟩;have H7:=H6.bk 10;rw [aJ];by_cases hr:((St i).1.remove M.dir (cu 98 n)).2=0
     · have hst2:St (i+1)=(((St i).1.remove M.dir (cu 98 n)).1,ru n (St i).2.1,true,0):=by
        rw [hst];rw [AF.ob hp hr]
        rfl
       rw [hr,show (((0:Nat):Int)!=0)=false from rfl,aa];refine lm (H7.mv 3).get ?_;rw [aP];refine lf (x:=ms) (H7.mv 7) rfl ?_;refine sv (kt:=2) (et:=31) (by kernel_rfl) (by kernel_rfl) hnd hx (H7.mv 2) fun g5 H8=>?_;refine bQ ((H8.bk 2).mv 6) (by exact Nat.zero_lt_one) rfl fun g6 H9=>?_;have H10:=H9.bk 6;have W':=Wi.remove M.dir (cu 98 n);have Hf:aD (pt L (rec .busy none)::cK h6.size::cW Bs kb tb ms a c 78 s (i+1) (St (i+1)).2.1::vF b0 b1 b2 b3 b fsb (.func gf gp gc) (fk fsb M.dir ms mf mm) (bP Bb mf M.Fo) (bP Bs mm M.D) C (A.steps+s.length) F (St (i+1))) g6:=by
        rw [hst2];have h1:=(AF.jZ (dir:=M.dir) (c:=98) (p:=p 98) ((M.S.map (·.1)).take (i+1)) A M.S false W)
        have h2:(St (i+1)).1.steps≤_:=h1.2;rw [hst2,aq] at h2;have hlen:(M.S.map (·.1)).length=s.length:=by rw [← hsk,an]
        have P:(0:Nat)=0∧((St i).1.remove M.dir (cu 98 n)).1.WF∧((St i).1.remove M.dir (cu 98 n)).1.steps≤A.steps+s.length:=⟨rfl,W',by simp only [] at h2 ⊢; simp only [hlen] at h2; omega⟩
        exact (bh.2 ⟨P,H10⟩).bk 3
       exact hgo g6 Hf
     · have hst2:St (i+1)=(((St i).1.remove M.dir (cu 98 n)).1,(St i).2.1,(St i).2.2.1,((St i).1.remove M.dir (cu 98 n)).2):=by
        rw [hst];rw [AF.pL hp hr]
       rw [bo hr,ab];refine bQ (H7.mv 5) (by exact Nat.zero_lt_one) rfl fun g5 H8=>?_;have H9:=H8.bk 5;have H10:=(i2 (H9.mv 2)).bk 2;have htot:Rs=St (i+1):=by
        have e1:M.S.map (·.1)=(M.S.map (·.1)).take (i+1)++(M.S.map (·.1)).drop (i+1):=(take_append_drop ..).symm;show fY _ _ _ (M.S.map (·.1)) _ _ _=_;rw [e1];refine AF.kw _ _ _ _ _ ?_;have:(St (i+1)).2.2.2≠0:=by rw [hst2]; exact hr
        exact this
       have hwf:=AF.jZ (dir:=M.dir) (c:=98) (p:=p 98) (M.S.map (·.1)) A M.S false W;have Hf:aD (pt L (rec .busy none)::cK h6.size::D8 Bs ms b0 b1 b2 b3 b fsb (.func gf gp gc) (fk fsb M.dir ms mf mm) (bP Bb mf M.Fo) (bP Bs mm M.D) C (A.steps+s.length) F Rs .ret) g5:=by
        have hlen:(M.S.map (·.1)).length=s.length:=by rw [← hsk,an]
        have hw2:Rs.1.steps≤_:=hwf.2;rw [hlen] at hw2;have hw3:Rs.1.WF:=hwf.1;have hw4:Rs.2.2.2≠0:=by rw [htot,hst2]; exact hr
        have H11:aD (iJ (Rs.2.2.2≠0∧Rs.1.WF∧Rs.1.steps≤(A.steps+s.length)∧Code.ret=.ret)::_) g5:=bh.2 ⟨⟨hw4,hw3,by omega,rfl⟩,H10⟩;have H12:=H11.bk 2;rw [htot,hst2] at H12 ⊢;exact H12
       exact hstop .ret g5 Hf
   · have hpf:p 98 n=false:=by cases h:p 98 n with
      | true=>exact absurd h hp
      | false=>rfl
     rw [hpf,aa];have hst2:St (i+1)=St i:=by
      rw [hst];rw [AF.n9 hp];exact Prod.ext rfl (Prod.ext rfl (Prod.ext rfl he.symm))
     have Hf:aD (pt L (rec .busy none)::cK h6.size::cW Bs kb tb ms a c 78 s (i+1) (St (i+1)).2.1::vF b0 b1 b2 b3 b fsb (.func gf gp gc) (fk fsb M.dir ms mf mm) (bP Bb mf M.Fo) (bP Bs mm M.D) C (A.steps+s.length) F (St (i+1))) (h2.setIfInBounds L (rec .busy none)):=by
      rw [hst2];have H5:=(kK (H4.mv 2)).bk 2;exact (bh.2 ⟨(⟨he,Wi,hsi⟩:(St i).2.2.2=0∧(St i).1.WF∧(St i).1.steps≤A.steps+s.length),H5⟩).bk 3
     exact hgo _ Hf
 · -- the folds
   intro h7 H9;refine ⟨.inl rfl,fun _=>?_,fun e=>by cases e⟩;rw [hRs] at H9;obtain ⟨⟨he,_,_⟩,H10⟩:=bh.1 (H9.mv 2);have H11:=(i2 (H10.mv 1)).bk 1;refine lm (H11.mv 2).get ?_;rw [aP];refine lf (x:=mf) (H11.mv 6) rfl ?_;refine (AQ (H11.mv 7) (by omega)).mono ?_;rintro v h9 ⟨kb,tb,a,c,s,rfl,hsk,hnd,H12⟩;have hsl:s.length=M.Fo.length:=by
    have:=congrArg List.length hsk;simpa using this
   refine ⟨_,rfl,?_⟩
   let St:Nat→Ah Unit:=fun i=>fY M.dir 102 (p 102) ((M.Fo.map (·.1)).take i) Rs.1 M.Fo Rs.2.2.1
   let Rf:Ah Unit:=fY M.dir 102 (p 102) (M.Fo.map (·.1)) Rs.1 M.Fo Rs.2.2.1
   have hRf:St s.length=Rf:=by
    show fY _ _ _ ((M.Fo.map (·.1)).take s.length) _ _ _=_;rw [ar (by rw [an]; omega)]
   have H13:aD (cW Bb kb tb mf a c 80 s 0 (St 0).2.1::vF b0 b1 b2 b3 b fsb (.func gf gp gc) (fk fsb M.dir ms mf mm) (bP Bs ms Rs.2.1) (bP Bs mm M.D) C (Rs.1.steps+s.length) (cK h6.size::F) (St 0)) h9:=
    (bh.2 ⟨⟨rfl,WR,Nat.le_add_right _ _⟩,H12.ordT 11 [0,3,4,5,6,7,2,8,9,10,1]⟩:aD (iJ _::_) h9).bk 1
   have hFwf:=AF.jZ (dir:=M.dir) (c:=102) (p:=p 102) (M.Fo.map (·.1)) Rs.1 M.Fo Rs.2.2.1 WR;have WF:Rf.1.WF:=hFwf.1;have hFst:Rf.1.steps≤Rs.1.steps+M.Fo.length:=by have:=hFwf.2; rw [an] at this; exact this
   refine iy s (fun x=>[.int .i64 x.1,x.2]) (fun i=>cW Bb kb tb mf a c 80 s i (St i).2.1) (fun i=>vF b0 b1 b2 b3 b fsb (.func gf gp gc) (fk fsb M.dir ms mf mm) (bP Bs ms Rs.2.1) (bP Bs mm M.D) C (Rs.1.steps+s.length) (cK h6.size::F) (St i))
    (fun j=>D8 Bb mf b0 b1 b2 b3 b fsb (.func gf gp gc) (fk fsb M.dir ms mf mm) (bP Bs ms Rs.2.1) (bP Bs mm M.D) C (Rs.1.steps+s.length) (cK h6.size::F) Rf j) H13 (fun _=>rfl)
    (fun yv G' Out h1 hh r f=>Ax (by omega) (fun i=>(St i).2.1) EJ yv G' Out h1 hh r f) ?_ ?_ ?_
   · -- a round
     intro i x L rec h2 Q hx H2 hgo hstop;obtain ⟨n,v⟩:=x;have hi:=(aj.1 hx).1;have HL:=H2.get;obtain ⟨⟨he,Wi,hsi⟩,H3⟩:=bh.1 (H2.mv 3);have hn:(M.Fo.map (·.1))[i]? = some n:=by rw [← hsk,getElem?_map,hx]; rfl
     have htake:(M.Fo.map (·.1)).take (i+1)=(M.Fo.map (·.1)).take i++[n]:=by rw [ax,hn]; rfl
     have hst:St (i+1)=fY M.dir 102 (p 102) [n] (St i).1 (St i).2.1 (St i).2.2.1:=by
      show fY _ _ _ ((M.Fo.map (·.1)).take (i+1)) _ _ _=_;rw [htake];exact AF.kv _ _ _ _ _ he
     obtain ⟨x,_,rfl⟩:=g9 (H3.mv 2) hx;refine ⟨n,true,rfl,HL,?_⟩;have H4:=H3.set (rec .busy none);refine ⟨.func gf gp gc,by rw [bj (H4.mv 4).get]; rfl,.func gf gp gc,rfl,?_⟩;refine (hg 102 n _ _ (.inr rfl) (H4.mv 11)).mono ?_;rintro v h3 ⟨rfl,rfl⟩;rw [cd];by_cases hp:p 102 n=true
     · rw [hp,ab];refine lm (H4.mv 3).get ?_;rw [aP];refine mK (x:=fsb) (H4.mv 7) rfl ?_;refine lm (H4.mv 3).get ?_;rw [aP];refine bI (x:=M.dir) (H4.mv 7) rfl ?_;refine (jy (n:=n) H4).mono ?_;rintro v h3 ⟨rfl,H5⟩;rw [aW];refine ⟨lm (H5.mv 3).get rfl,rfl,rfl,mK (x:=fsb) (H5.mv 7) rfl rfl,lm (H5.mv 3).get rfl,rfl,rfl,bI (x:=M.dir) (H5.mv 7) rfl rfl,?_,?_⟩
       · have:=fo 102 n;rw [show (cu 102 n).size=((⟨#[102,46]⟩:ByteArray)++bT (cU 16 (eY n))).size from rfl,ByteArray.size_append] at this;omega
       refine (l5 (k:=cu 102 n) Wi (by omega) hd (by rw [fo]; decide) (H5.mv 10)).mono ?_;rintro v h4 ⟨rfl,H6⟩;have H7:=H6.bk 10;rw [aJ];by_cases hr:((St i).1.remove M.dir (cu 102 n)).2=0
       · have hst2:St (i+1)=(((St i).1.remove M.dir (cu 102 n)).1,ru n (St i).2.1,true,0):=by
          rw [hst];rw [AF.ob hp hr]
          rfl
         rw [hr,show (((0:Nat):Int)!=0)=false from rfl,aa];refine lm (H7.mv 3).get ?_;rw [aP];refine lf (x:=mf) (H7.mv 7) rfl ?_;refine sv (kt:=2) (et:=4) (by kernel_rfl) (by kernel_rfl) hnd hx (H7.mv 2) fun g5 H8=>?_;refine bQ ((H8.bk 2).mv 6) (by exact Nat.zero_lt_one) rfl fun g6 H9=>?_;have H10:=H9.bk 6;have W':=Wi.remove M.dir (cu 102 n);have Hf:aD (pt L (rec .busy none)::cK h9.size::cW Bb kb tb mf a c 80 s (i+1) (St (i+1)).2.1::vF b0 b1 b2 b3 b fsb (.func gf gp gc) (fk fsb M.dir ms mf mm) (bP Bs ms Rs.2.1) (bP Bs mm M.D) C (Rs.1.steps+s.length) (cK h6.size::F) (St (i+1))) g6:=by
          rw [hst2];have h1:=(AF.jZ (dir:=M.dir) (c:=102) (p:=p 102) ((M.Fo.map (·.1)).take (i+1)) Rs.1 M.Fo Rs.2.2.1 WR)
          have h2:(St (i+1)).1.steps≤_:=h1.2;rw [hst2,aq] at h2;have hlen:(M.Fo.map (·.1)).length=s.length:=by rw [← hsk,an]
          have P:(0:Nat)=0∧((St i).1.remove M.dir (cu 102 n)).1.WF∧((St i).1.remove M.dir (cu 102 n)).1.steps≤Rs.1.steps+s.length:=⟨rfl,W',by simp only [] at h2 ⊢; simp only [hlen] at h2; omega⟩
          exact (bh.2 ⟨P,H10⟩).bk 3
         exact hgo g6 Hf
       · have hst2:St (i+1)=(((St i).1.remove M.dir (cu 102 n)).1,(St i).2.1,(St i).2.2.1,((St i).1.remove M.dir (cu 102 n)).2):=by
          rw [hst];rw [AF.pL hp hr]
         rw [bo hr,ab];refine bQ (H7.mv 5) (by exact Nat.zero_lt_one) rfl fun g5 H8=>?_;have H9:=H8.bk 5;have H10:=(i2 (H9.mv 2)).bk 2;have htot:Rf=St (i+1):=by
          have e1:M.Fo.map (·.1)=(M.Fo.map (·.1)).take (i+1)++(M.Fo.map (·.1)).drop (i+1):=(take_append_drop ..).symm;show fY _ _ _ (M.Fo.map (·.1)) _ _ _=_;rw [e1];refine AF.kw _ _ _ _ _ ?_;have:(St (i+1)).2.2.2≠0:=by rw [hst2]; exact hr
          exact this
         have hwf:=AF.jZ (dir:=M.dir) (c:=102) (p:=p 102) (M.Fo.map (·.1)) Rs.1 M.Fo Rs.2.2.1 WR;have Hf:aD (pt L (rec .busy none)::cK h9.size::D8 Bb mf b0 b1 b2 b3 b fsb (.func gf gp gc) (fk fsb M.dir ms mf mm) (bP Bs ms Rs.2.1) (bP Bs mm M.D) C (Rs.1.steps+s.length) (cK h6.size::F) Rf .ret) g5:=by
          have hlen:(M.Fo.map (·.1)).length=s.length:=by rw [← hsk,an]
          have hw2:Rf.1.steps≤_:=hwf.2;rw [hlen] at hw2;have hw3:Rf.1.WF:=hwf.1;have hw4:Rf.2.2.2≠0:=by rw [htot,hst2]; exact hr
          have H11:aD (iJ (Rf.2.2.2≠0∧Rf.1.WF∧Rf.1.steps≤(Rs.1.steps+s.length)∧Code.ret=.ret)::_) g5:=bh.2 ⟨⟨hw4,hw3,by omega,rfl⟩,H10⟩;have H12:=H11.bk 2;rw [htot,hst2] at H12 ⊢;exact H12
         exact hstop .ret g5 Hf
     · have hpf:p 102 n=false:=by cases h:p 102 n with
        | true=>exact absurd h hp
        | false=>rfl
       rw [hpf,aa];have hst2:St (i+1)=St i:=by
        rw [hst];rw [AF.n9 hp];exact Prod.ext rfl (Prod.ext rfl (Prod.ext rfl he.symm))
       have Hf:aD (pt L (rec .busy none)::cK h9.size::cW Bb kb tb mf a c 80 s (i+1) (St (i+1)).2.1::vF b0 b1 b2 b3 b fsb (.func gf gp gc) (fk fsb M.dir ms mf mm) (bP Bs ms Rs.2.1) (bP Bs mm M.D) C (Rs.1.steps+s.length) (cK h6.size::F) (St (i+1))) (h2.setIfInBounds L (rec .busy none)):=by
        rw [hst2];have H5:=(kK (H4.mv 2)).bk 2;exact (bh.2 ⟨(⟨he,Wi,hsi⟩:(St i).2.2.2=0∧(St i).1.WF∧(St i).1.steps≤Rs.1.steps+s.length),H5⟩).bk 3
       exact hgo _ Hf
   · intro h10 H14;refine ⟨.inl rfl,fun _=>?_,fun e=>by cases e⟩;rw [hRf] at H14;obtain ⟨⟨hef,_,_⟩,H15⟩:=bh.1 (H14.mv 2);have H16:=(i2 (H15.mv 1)).bk 1;refine Mk (H16.mv 5).get ?_;have hrem:M.remove A p=if Rf.2.2.1=true then ((Rf.1.syncDir M.dir).1,{ M with S:=Rs.2.1,Fo:=Rf.2.1 },(Rf.1.syncDir M.dir).2) else (Rf.1,{ M with S:=Rs.2.1,Fo:=Rf.2.1 },0):=by
      unfold AF.bA.remove;show (if Rs.2.2.2≠0 then _ else if Rf.2.2.2≠0 then _ else _)=_;rw [ak (by rw [he]; exact fun h=>h rfl),ak (by rw [hef]; exact fun h=>h rfl)]
     rw [hrem]
     cases hsome:Rf.2.2.1 with
     | true=>
       rw [ab,al rfl];refine lm (H16.mv 2).get ?_;rw [aP];refine mK (x:=fsb) (H16.mv 6) rfl ?_;refine lm (H16.mv 2).get ?_;rw [aP];refine bI (x:=M.dir) (H16.mv 6) rfl ?_;refine (l7 WF (by omega) hd (H16.mv 9)).mono ?_;rintro v h11 ⟨rfl,H17⟩;rw [aJ];refine bQ (H17.mv 5) (by exact Nat.zero_lt_one) rfl fun h12 H18=>?_;have H19:=H18.bk 5;refine ⟨(H19.mv 1).get,?_⟩;have H20:=(H19.mv 1).set (.deferred none);refine ⟨(H20.mv 11).get,?_⟩;have H21:=(H20.mv 11).set (.deferred none);refine pS (H21.mv 6).get ?_;refine ⟨rfl,WF.syncDir _,?_,?_⟩
       · have:=AF.jV (A:=Rf.1) M.dir;simp only [];omega
       · have H22:=H21.ordT 12 [8,9,3,10,2,11];exact dh (M:={ M with S:=Rs.2.1,Fo:=Rf.2.1 }) H22
     | false=>
       rw [aa,ak (by decide)];refine bQ (H16.mv 4) (by exact Nat.zero_lt_one) rfl fun h12 H18=>?_;have H19:=H18.bk 4;refine ⟨H19.get,?_⟩;have H20:=H19.set (.deferred none);refine ⟨(H20.mv 11).get,?_⟩;have H21:=(H20.mv 11).set (.deferred none);refine pS (H21.mv 5).get ?_;refine ⟨rfl,WF,?_,?_⟩
       · simp only [];omega
       · exact dh (M:={ M with S:=Rs.2.1,Fo:=Rf.2.1 }) (H21.ordT 12 [7,8,2,9,10,11])
   · intro j h10 H14;obtain ⟨⟨hef,_,_,rfl⟩,H15⟩:=bh.1 (H14.mv 1);refine ⟨.inr rfl,(fun e=>by cases e),fun _=>?_⟩;refine ⟨H15.get,?_⟩;have H20:=H15.set (.deferred none);refine ⟨(H20.mv 11).get,?_⟩;have H21:=(H20.mv 11).set (.deferred none);refine pS (H21.mv 5).get ?_;have hrem:M.remove A p=(Rf.1,{ M with S:=Rs.2.1,Fo:=Rf.2.1 },Rf.2.2.2):=by
      unfold AF.bA.remove;show (if Rs.2.2.2≠0 then _ else if Rf.2.2.2≠0 then _ else _)=_;rw [ak (by rw [he]; exact fun h=>h rfl),al hef]
     rw [hrem];refine ⟨rfl,WF,?_,?_⟩
     · simp only [];omega
     · exact dh (M:={ M with S:=Rs.2.1,Fo:=Rf.2.1 }) (H21.ordT 12 [7,8,2,9,10,11])
 · intro j h10 H14;obtain ⟨⟨hef,_,_,rfl⟩,H15⟩:=bh.1 (H14.mv 1);refine ⟨.inr rfl,(fun e=>by cases e),fun _=>?_⟩;refine ⟨H15.get,?_⟩;have H20:=H15.set (.deferred none);refine pS (H20.mv 4).get ?_;have hrem:M.remove A p=(Rs.1,{ M with S:=Rs.2.1 },Rs.2.2.2):=by
    unfold AF.bA.remove;show (if Rs.2.2.2≠0 then _ else _)=_;rw [al hef]
   rw [hrem];refine ⟨rfl,WR,?_,?_⟩
   · simp only [];omega
   · exact dh (M:={ M with S:=Rs.2.1 }) (H20.ordT 11 [6,1,7,8,9,10])
end
set_option maxRecDepth 20000 in
theorem Eb (m:Nat):bq .or .u8 (wrap .u8 (m:Int)) 128=((m%128+128:Nat):Int):=by
 rw [ee]
 have h:∀ x:Fin 256,bq .or .u8 (x.val:Int) 128=((x.val%128+128:Nat):Int):=by decide
 have:=h ⟨m%256,Nat.mod_lt _ (by decide)⟩
 rw [this]
 have e:m%256%128=m%128:=Nat.mod_mod_of_dvd _ (by decide)
 simp only [e]
section
variable {F:List aE} {h:Heap}
theorem tI {n:Nat} (hn:n<18446744073709551616) (H:aD F h):aC prog 162 [.int .u64 (n:Int)] h fun v h'=>∃ (a:Option Addr) (c:Nat),v=.slice a (gd n).length c∧aD (aL 5 1 a (gd n).length c ((gd n).map nv)::F) h':=by
 apply Fu.ap
 unfold La
 refine ⟨fun (s:Int×Sl) h2=>∃ (m:Nat) (pre:List Nat),s.1=(m:Int)∧m<18446744073709551616∧pre++gd m=gd n∧s.2.l=pre.length∧pre.length<64∧(m<2^(64 - pre.length))∧aD (aL 5 1 s.2.a s.2.l s.2.c (pre.map nv)::F) h2,
  fun s _=>s.1.toNat,⟨n,[],rfl,hn,rfl,rfl,by decide,by simpa using hn,bE 5 1 H⟩,?_⟩
 rintro ⟨s1,⟨sa,sl,sc⟩⟩ h2 ⟨m,pre,rfl,hm,hp,rfl,hl,hm2,H2⟩
 simp only at H2 ⊢
 by_cases h128:m<128
 · rw [ae (show ¬ ((m:Int)≥128) by omega),aa];rw [gG h128] at hp;refine aQ H2 fun b1 h3 H3=>?_;have e:wrap .u8 (m:Int)=((m:Nat):Int):=by rw [ee,Nat.mod_eq_of_lt (by omega)]
   rw [e] at H3;refine pj AZ vu pK (H3.mv 1) (rT (ys:=[m]) (ln H3 rfl) rfl) (by omega) fun a' c' h4 _ H4=>?_;rw [aF];rw [hp] at H4;have hlen:pre.length+1=(gd n).length:=by rw [← hp]; simp
   rw [hlen] at H4 ⊢;exact ⟨a',c',rfl,(H4.mv 1).drop⟩
 · rw [af (show ((m:Int)≥128) by omega),ab];rw [nW h128] at hp;refine aQ H2 fun b1 h3 H3=>?_;rw [Eb] at H3;refine pj AZ vu pK (H3.mv 1) (rT (ys:=[m%128+128]) (ln H3 rfl) rfl) (by omega) fun a' c' h4 _ H4=>?_;rw [aF];refine ⟨by decide,?_⟩;have e:lu .u64 (m:Int) 7=((m / 128:Nat):Int):=je .u64 m 7 (by decide);have hlt:pre.length+1<64:=by
    rcases Nat.lt_or_ge (pre.length+1) 64 with h | h
    · exact h
    · have:2^(64 - pre.length)≤2^1:=Nat.pow_le_pow_right (by decide) (by omega);omega
   refine ⟨⟨m / 128,pre++[m%128+128],e,by omega,?_,by simp,by simpa using hlt,?_,(H4.mv 1).drop⟩,?_⟩
   · rw [append_assoc];exact hp
   · have h1:2^(64 - pre.length)=2^(64 - (pre.length+1))*2:=by
      rw [← Nat.pow_succ];congr 1;omega
     have:m / 128<2^(64 - (pre.length+1)):=by
      rw [Nat.div_lt_iff_lt_mul (by decide)];omega
     simpa using this
   · show (lu .u64 (m:Int) 7).toNat<((m:Int)).toNat;rw [e];omega
theorem tU {s:ByteArray} (hs:s.size≤1099511627776) (H:aD F h):aC prog 108 [.string s] h fun v h'=>∃ (a:Option Addr) (c:Nat),v=.slice a (dV (sb s)).length c∧aD (aL 5 1 a (dV (sb s)).length c ((dV (sb s)).map nv)::F) h':=by
 apply F5.ap
 unfold Lz
 have e:wrap .u64 ((s.size:Nat):Int)=((s.size:Nat):Int):=IntWalk.u64_in _ (by omega)
 rw [e]
 refine (tI (n:=s.size) (by omega) H).mono ?_
 rintro v h1 ⟨a,c,rfl,H1⟩
 rw [aF]
 have hl:=fy 6 s.size (by omega)
 refine pj AZ (by kernel_rfl) pK H1 (GI s) (by omega) fun a' c' h2 _ H2=>?_
 rw [aF]
 have e2:dV (sb s)=gd s.size++sb s:=by unfold dV; rw [bd]
 have e3:(gd s.size).length+s.size=(dV (sb s)).length:=by rw [e2,am,bd]
 rw [← e2,e3] at H2
 rw [e3]
 exact ⟨a',c',rfl,H2⟩
theorem AR {k x:ByteArray} (hk:k.size≤1000000000) (hx:x.size≤1000000000) (H:aD F h):aC prog 107 [.agg #[.string k,.string x]] h fun v h'=>∃ (a:Option Addr) (c:Nat),v=.slice a (gM (sb k,sb x)).length c∧aD (aL 5 1 a (gM (sb k,sb x)).length c ((gM (sb k,sb x)).map nv)::F) h':=by
 apply F6.ap
 unfold LA
 refine aQ H fun b0 h1 H1=>?_
 refine bI (x:=k) H1 rfl ?_
 refine bI (x:=x) H1 rfl ?_
 refine (tU (by omega) H1).mono ?_
 rintro v h2 ⟨a,c,rfl,H2⟩
 rw [aF]
 refine ⟨rfl,bI (x:=x) (H2.mv 1) rfl rfl,?_⟩
 refine (tU (by omega) H2).mono ?_
 rintro v h3 ⟨a2,c2,rfl,H3⟩
 rw [aF]
 have l1:(dV (sb k)).length≤2000000000:=by
  unfold dV;have:=fy 6 (sb k).length (by rw [bd]; omega);rw [am,bd] at *;omega
 have l2:(dV (sb x)).length≤2000000000:=by
  unfold dV;have:=fy 6 (sb x).length (by rw [bd]; omega);rw [am,bd] at *;omega
 refine pj AZ vu pK (H3.mv 1) (rT (aH H3) rfl) (by omega) fun a' c' h4 _ H4=>?_
 rw [aF]
 have e3:(dV (sb k)).length+(dV (sb x)).length=(gM (sb k,sb x)).length:=by unfold gM; rw [am]
 rw [e3] at H4 ⊢
 exact ⟨a',c',rfl,(H4.ordT 3 [0])⟩
def bV (p:ByteArray×ByteArray):List Value:=[.string p.1,.string p.2]
theorem i3 (p:ByteArray×ByteArray):(bV p).length=2:=rfl
def dE (ps:List (ByteArray×ByteArray)):List Nat:=oU (ps.map fun p=>(sb p.1,sb p.2))
def ji (n:Nat) (ps:List (ByteArray×ByteArray)):List Nat:=gd n++ps.flatMap fun p=>gM (sb p.1,sb p.2)
theorem ly (ps:List (ByteArray×ByteArray)):ji ps.length ps=dE ps:=by
 unfold ji dE oU
 rw [an,List.flatMap_map]
theorem yC (n:Nat) (ps:List (ByteArray×ByteArray)) (i:Nat):(ji n (ps.take i)).length≤(ji n ps).length:=by
 unfold ji
 rw [am,am]
 have:(ps.flatMap fun p=>gM (sb p.1,sb p.2))=((ps.take i).flatMap fun p=>gM (sb p.1,sb p.2))++((ps.drop i).flatMap fun p=>gM (sb p.1,sb p.2)):=by
  rw [← flatMap_append,take_append_drop]
 rw [this,am]
 omega
theorem AS {la:Option Addr} {ll lc:Nat} {ps:List (ByteArray×ByteArray)} (hr:∀ h',aD F h'→dF h' la (ps.flatMap bV)) (hl:ps.length=ll) (hll:ll<1000000000) (hp:∀ p∈ps,p.1.size≤1000000000∧p.2.size≤1000000000) (hsz:(dE ps).length≤1099511627776) (H:aD F h) :
  aC prog 106 [.slice la ll lc,.func (.func 107) #[] #[]] h fun v h'=>∃ (a:Option Addr) (c:Nat),v=.slice a (dE ps).length c∧aD (aL 5 1 a (dE ps).length c ((dE ps).map nv)::F) h':=by
 apply F7.ap
 unfold LB
 have e:wrap .u64 ((ll:Nat):Int)=((ps.length:Nat):Int):=by rw [hl]; exact IntWalk.u64_in _ (by omega)
 rw [e]
 refine (tI (n:=ps.length) (by omega) H).mono ?_
 rintro v h1 ⟨a,c,rfl,H1⟩
 rw [aF]
 rw [← ly] at hsz
 refine aZ.upto ll (fun i (s:Sl×Int) h2=>s.2=(i:Int)∧i≤ll∧s.1.l=(ji ps.length (ps.take i)).length∧aD (aL 5 1 s.1.a s.1.l s.1.c ((ji ps.length (ps.take i)).map nv)::F) h2) (fun s=>ll - s.2.toNat) (fun i s h2 hh=>⟨hh.2.1,by rw [hh.1]; omega⟩)
  ⟨rfl,au _,by simp [ji],by simpa [ji] using H1⟩ ?_ ?_
 · rintro i ⟨⟨sa,sl,sc⟩,s2⟩ h2 again hi ⟨rfl,_,rfl,H2⟩ go;simp only at H2 ⊢;rw [af (show ((i:Int)<(ll:Int)) by omega),ab];obtain ⟨⟨k,x⟩,hx⟩:∃ x,ps[i]? = some x:=⟨_,ah (by omega)⟩
   have hkx:k.size≤1000000000∧x.size≤1000000000:=hp _ (ai hx);refine fX (f:=bV) (sz:=2) (x:=(k,x)) i3 (by decide) (hr _ H2.drop) hl hx fun b hb hc=>?_;refine ⟨.string k,hc 0 _ rfl,.string x,hc 1 _ rfl,k,x,rfl,?_⟩;refine aQ H2 fun b1 h3 H3=>?_;simp only [aV];refine dK H3 (by decide) (bO 2 0 (by decide)) fun h4 H4=>?_;refine dK (i:=1) H4 (by simp) (bO 2 1 (by decide)) fun h5 H5=>?_;have H6:aD (pt b1 (.cells #[.string k,.string x] 98 (0,0))::aL 5 1 sa (ji ps.length (ps.take i)).length sc ((ji ps.length (ps.take i)).map nv)::F) h5:=H5;refine ⟨.string k,by rw [bj H6.get]; rfl,?_⟩;refine ⟨.string x,bZ (i:=1) H6 rfl,k,x,rfl,?_⟩;refine fO ?_;refine (AR hkx.1 hkx.2 H6).mono ?_;rintro v h6 ⟨a2,c2,rfl,H7⟩;rw [aF];have hpre:ji ps.length (ps.take (i+1))=ji ps.length (ps.take i)++gM (sb k,sb x):=by
    rw [ax,hx];unfold ji;rw [flatMap_append,← append_assoc];simp
   have hle:=yC ps.length ps (i+1);rw [hpre,am] at hle;refine pj AZ vu pK (H7.mv 2) (rT (aH H7) rfl) (by omega) fun a' c' h8 _ H8=>?_;rw [aF,aK (by omega)];refine go _ _ ⟨rfl,by omega,?_,?_⟩
   · rw [hpre,am]
   · rw [hpre];exact (H8.mv 1).drop.mv 1 |>.drop
 · rintro ⟨⟨sa,sl,sc⟩,s2⟩ h2 again ⟨rfl,_,rfl,H2⟩;simp only at H2 ⊢;rw [ae (by omega),aa];rw [ar (by omega),ly] at H2 ⊢;exact ⟨sa,sc,rfl,H2⟩
theorem CZ {la:Option Addr} {ll lc:Nat} {ps:List (ByteArray×ByteArray)} (hr:∀ h',aD F h'→dF h' la (ps.flatMap bV)) (hl:ps.length=ll) (hll:ll<1000000000) (hp:∀ p∈ps,p.1.size≤1000000000∧p.2.size≤1000000000) (hsz:(dE ps).length≤1099511627776) (H:aD F h) :
  aC prog 43 [.slice la ll lc] h fun v h'=>(16777216<(dE ps).length∧v=.tuple #[.slice none 0 0,.int .i64 42]∧aD F h')∨
   ((dE ps).length≤16777216∧∃ (a:Option Addr) (c:Nat),v=.tuple #[.slice a (dE ps).length c,.int .i64 0]∧aD (aL 5 1 a (dE ps).length c ((dE ps).map nv)::F) h'):=by
 apply Ir.ap
 unfold MW
 refine (AS hr hl hll hp hsz H).mono ?_
 rintro v h1 ⟨a,c,rfl,H1⟩
 rw [aF]
 apply Ga.ap
 unfold LC
 by_cases hb:16777216<(dE ps).length
 · rw [af (show (((dE ps).length:Int)>16777216) by omega),ab];exact ⟨none,0,0,42,rfl,.inl ⟨hb,rfl,H1.drop⟩⟩
 · rw [ae (show ¬ (((dE ps).length:Int)>16777216) by omega),aa];exact ⟨a,_,c,0,rfl,.inr ⟨by omega,a,c,rfl,H1⟩⟩
end
def Cv {κ:Type} (E:mL κ) (es:Array MapEntry) (k:κ) (n:Nat):Prop:=∃ (j:Nat) (e:MapEntry),es.toList[j]? = some e∧e.key=E.enc k∧e.born=n
theorem zj {κ:Type} [DecidableEq κ] (m:List (κ×Value)) (k:κ) (v u:Value):gt (gt m k v) k u=gt m k u:=by
 unfold gt
 by_cases ha:m.any (fun p=>decide (p.1=k))=true
 · have h2:((m.map fun p=>if p.1=k then (k,v) else p).any fun p=>decide (p.1=k))=true:=by
    rw [any_eq_true] at ha ⊢;obtain ⟨p,hp,e⟩:=ha;exact ⟨(k,v),List.mem_map.2 ⟨p,hp,al (by simpa using e)⟩,by simp⟩
   simp only [ha,if_true,h2];rw [map_map];apply map_congr_left;intro p _;by_cases e:p.1=k <;> simp [e]
 · have hf:m.any (fun p=>decide (p.1=k))=false:=by
    cases h:m.any (fun p=>decide (p.1=k)) with
    | true=>exact absurd h ha
    | false=>rfl
   have h2:((m++[(k,v)]).any fun p=>decide (p.1=k))=true:=by simp
   simp only [hf,Bool.false_eq_true,if_false,h2,if_true];rw [map_append];congr 1
   · conv=>rhs; rw [← List.map_id m]
     apply map_congr_left;intro p hp;have:p.1≠k:=fun e=>by
      rw [any_eq_false] at hf;exact hf p hp (by simpa using e)
     simp [this]
   · simp
theorem ux {κ:Type} [DecidableEq κ] {P:Program} {E:mL κ} {T kt et:TypeId} {b:Nat} {m:List (κ×Value)} {F:List aE} {h:Heap} {k:κ} {z:Value} {K:Value→Heap→Prop}
  (hT:P.underlying T=some (.map kt et)) (hd:P.underlying kt=some E.desc) (hz:∀ w,(zeroValue et).run P w=.ok z w) (H:aD (bF E b m::F) h)
  (hK:∀ v (n:Nat) es clock h',dG E es clock (gt m k v)→Cv E es k n→aD (pt b (.map es clock)::F) h'→K (.tuple #[v,.int .i64 (n:Int)]) h') :
  aX P (Instr.mapEntry T (.map (some b)) (E.enc k)) h K:=by
 intro w hw
 subst hw
 obtain ⟨es,clock,hm,H2⟩:=cx H
 have hb:=H2.get
 obtain ⟨f,hf,hl,hcase⟩:=hm.find k
 rcases hcase with ⟨rfl,hno,hnk⟩ | ⟨j,e,u,rfl,hj,hek,hmj⟩
 · refine ⟨.tuple #[z,.int .i64 (clock:Int)],{ w with heap:=w.heap.setIfInBounds b (.map (es.push { key:=E.enc k,val:=z,born:=clock }) (clock+1)) },?_,⟨rfl,rfl,rfl⟩,hK z clock (es.push { key:=E.enc k,val:=z,born:=clock }) (clock+1) _ ⟨stamped_push hm.1 hnk,?_⟩ ⟨es.size,{ key:=E.enc k,val:=z,born:=clock },by simp,rfl,rfl⟩ (H2.set _)⟩
   · simp [Instr.mapEntry,run_underlying hT,MapKept.run_getObj_map hb,MapKept.run_checkKey hd (E.isKey k),MapKept.run_findKey hd hf,MapKept.run_setObj_map _ hb,Result.andThen,hz,goInt]
   · have hany:m.any (fun p=>decide (p.1=k))=false:=by
      rw [any_eq_false];intro p hp;simpa using hno p hp
     simp [gt,hany,hm.2]
 · have hj':es[j]? = some e:=by simpa using hj
   have hkey:∀ e',es[j]? = some e'→({ e' with key:=E.enc k }:MapEntry).key=e'.key:=fun e' he'=>by rw [hj'] at he'; cases he'; exact hek.symm
   have hev:e.val=u:=by
    obtain ⟨p,hp,_,hv⟩:=hm.at hj;rw [hmj] at hp;cases hp;exact hv
   refine ⟨.tuple #[u,.int .i64 (e.born:Int)],{ w with heap:=w.heap.setIfInBounds b (.map (es.modify j fun e=>{ e with key:=E.enc k }) clock) },?_,⟨rfl,rfl,rfl⟩,
    hK u e.born (es.modify j fun e=>{ e with key:=E.enc k }) clock _ ⟨stamped_modify hm.1 _ _ (fun _ _=>rfl) (fun e' _ he'=>hkey e' he'),?_⟩ ⟨j,{ e with key:=E.enc k },?_,rfl,rfl⟩ (H2.set _)⟩
   · simp [Instr.mapEntry,run_underlying hT,MapKept.run_getObj_map hb,MapKept.run_checkKey hd (E.isKey k),MapKept.run_findKey hd hf,hj',hek,MapKept.run_keyThatStays (E.isKey k),MapKept.run_setObj_map _ hb,Result.andThen,goInt]
   · have hany:m.any (fun p=>decide (p.1=k))=true:=by
      rw [any_eq_true];exact ⟨(k,u),ai hmj,by simp⟩
     have e0:es.modify j (fun e=>{ e with key:=E.enc k })=es:=by
      apply Array.ext_getElem?;intro i;rw [Array.getElem?_modify];by_cases h:j=i
      · subst h;rw [al rfl,hj'];simp [← hek]
      · rw [ak h]
     rw [e0,hm.2];congr 1;simp only [gt,hany,if_true];rw [← kH m j k u u hm.nodup hmj];apply List.ext_getElem?;intro i;rw [List.getElem?_modify];by_cases h:j=i
     · subst h;simp [hmj]
     · simp [h]
   · rw [Array.toList_modify,List.getElem?_modify,hj];simp
theorem rk {κ:Type} [DecidableEq κ] {P:Program} {E:mL κ} {T:TypeId} {b:Nat} {m:List (κ×Value)} {F:List aE} {h:Heap} {k:κ} {u:Value} {n:Nat} {es:Array MapEntry} {clock:Nat} {K:Heap→Prop}
  (hm:dG E es clock m) (hat:Cv E es k n) (H:aD (pt b (.map es clock)::F) h) (hK:∀ h',aD (bF E b (gt m k u)::F) h'→K h'):fW P (Instr.entryStore T (.map (some b)) (.int .i64 (n:Int)) u) h K:=by
 intro w hw
 subst hw
 obtain ⟨j,e,hj,hek,hen⟩:=hat
 have hj':es[j]? = some e:=by simpa using hj
 obtain ⟨p,hp,hpk,hpv⟩:=hm.at hj
 have hpe:p.1=k:=E.inj _ _ (by rw [← hpk,hek])
 have hmj:m[j]? = some (k,p.2):=by rw [hp,← hpe]
 have hfi:es.findIdx? (fun e=>(e.born:Int)==(n:Int))=some j:=by
  rw [Array.findIdx?_eq_some_iff_getElem];obtain ⟨hlt,he⟩:=Array.getElem?_eq_some_iff.1 hj';refine ⟨hlt,by rw [he,hen]; simp,fun i hi=>?_⟩;have hn:=hm.1.2.1;intro hc;have h1:(es.toList.map (·.born))[i]? = some n:=by
   rw [getElem?_map,Array.getElem?_toList,Array.getElem?_eq_getElem (by omega)];have:(es[i].born:Int)=n:=by simpa using hc
   simp only [Option.map_some];congr 1;omega
  have h2:(es.toList.map (·.born))[j]? = some n:=by rw [getElem?_map,hj,← hen]; rfl
  obtain ⟨a1,b1⟩:=aj.1 h1;obtain ⟨a2,b2⟩:=aj.1 h2;have:=List.pairwise_iff_getElem.1 hn i j a1 a2 hi;rw [b1,b2] at this;exact this rfl
 refine ⟨{ w with heap:=w.heap.setIfInBounds b (.map (es.modify j fun e=>{ e with val:=u }) clock) },?_,⟨rfl,rfl,rfl⟩,hK _ (cw (es:=es.modify j fun e=>{ e with val:=u }) (clock:=clock) ⟨stamped_modify hm.1 _ _ (fun _ _=>rfl) (fun e' _ he'=>rfl),?_⟩ (H.set _))⟩
 · simp [Instr.entryStore,MapKept.run_getObj_map H.get,asInt,asIntOf,hfi,MapKept.run_setObj_map _ H.get,Result.andThen]
 · have hany:m.any (fun p=>decide (p.1=k))=true:=by
    rw [any_eq_true];exact ⟨(k,p.2),ai hmj,by simp⟩
   simp only [gt,hany,if_true];rw [← kH m j k u p.2 hm.nodup hmj];rw [Array.toList_modify];apply List.ext_getElem?;intro i;have h0:(es.toList.map fun e:MapEntry=>(e.key,e.val))[i]? = (m.map fun p=>(E.enc p.1,p.2))[i]? := by rw [hm.2]
   rw [getElem?_map,getElem?_map] at h0;rw [getElem?_map,getElem?_map,List.getElem?_modify,List.getElem?_modify];by_cases h:j=i
   · subst h;simp [hj,hmj,hek]
   · simp only [h,if_false,Option.map_id'];simpa using h0
namespace AF
open Frame (dk)
theorem zV {β:Type} {l:List β} {p:β→Bool} (h:∀ x∈l,p x=true):l.filter p=l:=List.filter_eq_self.2 h
def wt (E:fe):Nat:=(E.map fun p=>30+p.2.length).sum
theorem jL (n:Int):(sb (lK n)).length=16:=by
 unfold lK
 rw [bM (Hex.jO _ _),Hex.gg]
theorem Es (n:Int):B8 (sb (lK n)):=fT _
theorem oT {E:fe} (h:∀ p∈E,B8 p.2):B8 (bC E):=zA fun p hp=>by
 obtain ⟨q,hq,rfl⟩:=List.mem_map.1 hp
 exact ⟨Es _,h q hq⟩
end AF
open AF (bA dq bm cu fe)
theorem rj {α:Sort _} {A:α→aE} {l:List aE} {h:Heap} (x:α) (H:aD (A x::l) h):aD (mu A::l) h:=bg.2 ⟨x,H⟩
def B9 (l_0:Option Addr) (b1 b2 D:Nat) (h_22:Heap) (Q:Value→Heap→Prop):Prop:=
 Ld h_22 (Addr.mk b2 0 none) fun v9=>aT v9 fun x16a x16l x16c=>
  aC prog 43 [.slice x16a x16l x16c] h_22 fun r16 h_23=>
  ∃ (x17a:Option Addr),∃ (x17l:Nat),∃ (x17c:Nat),∃ (x18:Int),r16=.tuple #[.slice x17a x17l x17c,.int .i64 x18]∧
  (bif (x18:Int)!=0 then
   h_23[D]? = some (.deferred (some []))∧
   Q (.int .i64 x18) (h_23.setIfInBounds D (.deferred none))
  else
   aS l_0 fun a2=>
   Ld h_23 (a2.add 0) fun v10=>DP v10 fun x19=>
   aS l_0 fun a3=>
   Ld h_23 (a3.add 1) fun v11=>DS v11 fun x20=>
   Ld h_23 (Addr.mk b1 0 none) fun v12=>DI .i64 v12 fun x21=>
   aC prog 35 [.int .i64 x21] h_23 fun r17 h_24=>
   DS r17 fun x22=>
   (aG (some (.pointer l_0)) (.pointer l_0))∧
   (aS l_0 fun a4=>
   aG (some (.pointer (some a2))) (.pointer (some a4)))∧
   (aG (some (.pointer (some (a2.add 0)))) (.pointer (some (a2.add 0))))∧
   (Ld h_24 (a2.add 0) fun v13=>DP v13 fun x23=>
   aG (some (.pointer x19)) (.pointer x23))∧
   (aG (some (.pointer l_0)) (.pointer l_0))∧
   (aS l_0 fun a5=>
   aG (some (.pointer (some a3))) (.pointer (some a5)))∧
   (aG (some (.pointer (some (a3.add 1)))) (.pointer (some (a3.add 1))))∧
   (Ld h_24 (a3.add 1) fun v14=>DS v14 fun x24=>
   aG (some (.string x20)) (.string x24))∧
   (aG (some (.slice x17a x17l x17c)) (.slice x17a x17l x17c))∧
   (⟨#[102,46]⟩:ByteArray).size+(x22:ByteArray).size≤9223372036854775807∧
   aC prog 40 [.pointer x19,.string x20,.string (⟨#[102,46]⟩++x22),.slice x17a x17l x17c] h_24 fun r18 h_25=>
   DI .i64 r18 fun e0=>
   (bif (e0:Int)!=0 then
    h_25[D]? = some (.deferred (some []))∧
    Q (.int .i64 e0) (h_25.setIfInBounds D (.deferred none))
   else
    Al h_25 (.map #[] 0) fun b4 h_26=>
    aC prog 42 [.pointer l_0] h_26 fun r20 h_27=>
    DM r20 fun x25=>
    aX prog (Instr.range 78 (.map x25)) h_27 fun r21 h_28=>
    DP r21 fun p1=>
    aZ (fun again1 (s1:Unit) h_29=>
     aX prog (Instr.next (.pointer p1) false 0) h_29 fun r22 h_30=>
     (
      r22=.tuple #[.bool false]∧
      aS l_0 fun a6=>
      Ld h_30 (a6.add 3) fun v15=>DM v15 fun x27=>
      Ld h_30 (Addr.mk b1 0 none) fun v16=>DI .i64 v16 fun x28=>
      aX prog (Instr.mapEntry 80 (.map x27) (.int .i64 x28)) h_30 fun r23 h_31=>
      ∃ (x29:Value),∃ (x30:Int),r23=.tuple #[x29,.int .i64 x30]∧
      (aG (some (.pointer l_0)) (.pointer l_0))∧
      (aG (some (.map (some b4))) (.map (some b4)))∧
      fW prog (Instr.entryStore 80 (.map x27) (.int .i64 x30) (.bool true)) h_31 fun h_32=>
      (aG (some (.pointer l_0)) (.pointer l_0))∧
      (aG (some (.map (some b4))) (.map (some b4)))∧
      aS l_0 fun a7=>
      bz h_32 ((a7.add 4).add 0) (.map (some b4)) fun h_34=>
      aC prog 44 [.pointer l_0,.func (.func 45) #[] #[.pointer (some (Addr.mk b1 0 none))]] h_34 fun r26 h_35=>
      DI .i64 r26 fun x31=>
      h_35[D]? = some (.deferred (some []))∧
      Q (.int .i64 x31) (h_35.setIfInBounds D (.deferred none)))∨(
      ∃ (k1 x26:Value),r22=.tuple #[.bool true,k1,x26]∧
      aX prog (Instr.entry (.pointer p1)) h_30 fun r27 h_36=>
      ∃ (x32:Int),∃ (x33a:Option Addr),∃ (x33l:Nat),∃ (x33c:Nat),r27=.tuple #[.int .i64 x32,.slice x33a x33l x33c]∧
      Ld h_36 (Addr.mk b1 0 none) fun v17=>DI .i64 v17 fun x34=>
      (bif decide ((x32:Int)≤x34) then
       fW prog (Instr.mapUpdate 78 (.map (some b4)) (.int .i64 x32) (.slice x33a x33l x33c)) h_36 fun h_37=>
       again1 () h_37
      else
       again1 () h_36))) () h_28))
def B7 (l_0:Option Addr) (b1 b2 D:Nat) (h_18:Heap) (Q:Value→Heap→Prop):Prop:=
 Ld h_18 (Addr.mk b1 0 none) fun v4=>DI .i64 v4 fun x9=>
  (bif decide ((x9:Int)<0) then
   h_18[D]? = some (.deferred (some []))∧
   Q (.int .i64 91) (h_18.setIfInBounds D (.deferred none))
  else
   Ld h_18 (Addr.mk b1 0 none) fun v5=>DI .i64 v5 fun x10=>
   aC prog 33 [.pointer l_0] h_18 fun r13 h_19=>
   DI .i64 r13 fun x11=>
   (Ld h_19 (Addr.mk b1 0 none) fun v6=>DI .i64 v6 fun x12=>
   aG (some (.int .i64 x10)) (.int .i64 x12))∧
   (bif (x11:Int)==x10 then
    aS l_0 fun a0=>
    Ld h_19 (a0.add 3) fun v7=>DM v7 fun x13=>
    ∃ es0,dJ h_19 x13 es0∧
    aS l_0 fun a1=>
    Ld h_19 (a1.add 2) fun v8=>DM v8 fun x14=>
    aX prog (Instr.range 78 (.map x14)) h_19 fun r14 h_20=>
    DP r14 fun p0=>
    aZ (fun again0 (s0:Bool) h_21=>
     aX prog (Instr.next (.pointer p0) false 0) h_21 fun r15 h_22=>
     (
      r15=.tuple #[.bool false]∧
      (bif s0 then
       h_22[D]? = some (.deferred (some []))∧
       Q (.int .i64 0) (h_22.setIfInBounds D (.deferred none))
      else
       Ld h_22 (Addr.mk b2 0 none) fun v9=>aT v9 fun x16a x16l x16c=>
       aC prog 43 [.slice x16a x16l x16c] h_22 fun r16 h_23=>
       ∃ (x17a:Option Addr),∃ (x17l:Nat),∃ (x17c:Nat),∃ (x18:Int),r16=.tuple #[.slice x17a x17l x17c,.int .i64 x18]∧
       (bif (x18:Int)!=0 then
        h_23[D]? = some (.deferred (some []))∧
        Q (.int .i64 x18) (h_23.setIfInBounds D (.deferred none))
       else
        aS l_0 fun a2=>
        Ld h_23 (a2.add 0) fun v10=>DP v10 fun x19=>
        aS l_0 fun a3=>
        Ld h_23 (a3.add 1) fun v11=>DS v11 fun x20=>
        Ld h_23 (Addr.mk b1 0 none) fun v12=>DI .i64 v12 fun x21=>
        aC prog 35 [.int .i64 x21] h_23 fun r17 h_24=>
        DS r17 fun x22=>
        (aG (some (.pointer l_0)) (.pointer l_0))∧
        (aS l_0 fun a4=>
        aG (some (.pointer (some a2))) (.pointer (some a4)))∧
        (aG (some (.pointer (some (a2.add 0)))) (.pointer (some (a2.add 0))))∧
        (Ld h_24 (a2.add 0) fun v13=>DP v13 fun x23=>
        aG (some (.pointer x19)) (.pointer x23))∧
        (aG (some (.pointer l_0)) (.pointer l_0))∧
        (aS l_0 fun a5=>
        aG (some (.pointer (some a3))) (.pointer (some a5)))∧
        (aG (some (.pointer (some (a3.add 1)))) (.pointer (some (a3.add 1))))∧
        (Ld h_24 (a3.add 1) fun v14=>DS v14 fun x24=>
        aG (some (.string x20)) (.string x24))∧
        (aG (some (.slice x17a x17l x17c)) (.slice x17a x17l x17c))∧
        (⟨#[102,46]⟩:ByteArray).size+(x22:ByteArray).size≤9223372036854775807∧
        aC prog 40 [.pointer x19,.string x20,.string (⟨#[102,46]⟩++x22),.slice x17a x17l x17c] h_24 fun r18 h_25=>
        DI .i64 r18 fun e0=>
        (bif (e0:Int)!=0 then
         h_25[D]? = some (.deferred (some []))∧
         Q (.int .i64 e0) (h_25.setIfInBounds D (.deferred none))
        else
         Al h_25 (.map #[] 0) fun b4 h_26=>
         aC prog 42 [.pointer l_0] h_26 fun r20 h_27=>
         DM r20 fun x25=>
         aX prog (Instr.range 78 (.map x25)) h_27 fun r21 h_28=>
         DP r21 fun p1=>
         aZ (fun again1 (s1:Unit) h_29=>
          aX prog (Instr.next (.pointer p1) false 0) h_29 fun r22 h_30=>
          (
           r22=.tuple #[.bool false]∧
           aS l_0 fun a6=>
           Ld h_30 (a6.add 3) fun v15=>DM v15 fun x27=>
           Ld h_30 (Addr.mk b1 0 none) fun v16=>DI .i64 v16 fun x28=>
           aX prog (Instr.mapEntry 80 (.map x27) (.int .i64 x28)) h_30 fun r23 h_31=>
           ∃ (x29:Value),∃ (x30:Int),r23=.tuple #[x29,.int .i64 x30]∧
           (aG (some (.pointer l_0)) (.pointer l_0))∧
           (aG (some (.map (some b4))) (.map (some b4)))∧
           fW prog (Instr.entryStore 80 (.map x27) (.int .i64 x30) (.bool true)) h_31 fun h_32=>
           (aG (some (.pointer l_0)) (.pointer l_0))∧
           (aG (some (.map (some b4))) (.map (some b4)))∧
           aS l_0 fun a7=>
           bz h_32 ((a7.add 4).add 0) (.map (some b4)) fun h_34=>
           aC prog 44 [.pointer l_0,.func (.func 45) #[] #[.pointer (some (Addr.mk b1 0 none))]] h_34 fun r26 h_35=>
           DI .i64 r26 fun x31=>
           h_35[D]? = some (.deferred (some []))∧
           Q (.int .i64 x31) (h_35.setIfInBounds D (.deferred none)))∨(
           ∃ (k1 x26:Value),r22=.tuple #[.bool true,k1,x26]∧
           aX prog (Instr.entry (.pointer p1)) h_30 fun r27 h_36=>
           ∃ (x32:Int),∃ (x33a:Option Addr),∃ (x33l:Nat),∃ (x33c:Nat),r27=.tuple #[.int .i64 x32,.slice x33a x33l x33c]∧
           Ld h_36 (Addr.mk b1 0 none) fun v17=>DI .i64 v17 fun x34=>
           (bif decide ((x32:Int)≤x34) then
            fW prog (Instr.mapUpdate 78 (.map (some b4)) (.int .i64 x32) (.slice x33a x33l x33c)) h_36 fun h_37=>
            again1 () h_37
           else
            again1 () h_36))) () h_28))))∨(
      ∃ (k0 x15:Value),r15=.tuple #[.bool true,k0,x15]∧
      aX prog (Instr.entry (.pointer p0)) h_22 fun r29 h_38=>
      ∃ (x35:Int),∃ (x36:Value),r29=.tuple #[.int .i64 x35,x36]∧
      (bif s0 then
       Ld h_38 (Addr.mk b1 0 none) fun v18=>DI .i64 v18 fun x37=>
       again0 (decide ((x35:Int)>x37)) h_38
      else
       again0 false h_38))) ((((es0:Array MapEntry).size:Int):Int)==1) h_20
   else
    aS l_0 fun a8=>
    Ld h_19 (a8.add 2) fun v19=>DM v19 fun x38=>
    aX prog (Instr.range 78 (.map x38)) h_19 fun r30 h_39=>
    DP r30 fun p2=>
    aZ (fun again2 (s2:Bool) h_40=>
     aX prog (Instr.next (.pointer p2) false 0) h_40 fun r31 h_41=>
     (
      r31=.tuple #[.bool false]∧
      (bif s2 then
       h_41[D]? = some (.deferred (some []))∧
       Q (.int .i64 0) (h_41.setIfInBounds D (.deferred none))
      else
       Ld h_41 (Addr.mk b2 0 none) fun v20=>aT v20 fun x40a x40l x40c=>
       aC prog 43 [.slice x40a x40l x40c] h_41 fun r32 h_42=>
       ∃ (x41a:Option Addr),∃ (x41l:Nat),∃ (x41c:Nat),∃ (x42:Int),r32=.tuple #[.slice x41a x41l x41c,.int .i64 x42]∧
       (bif (x42:Int)!=0 then
        h_42[D]? = some (.deferred (some []))∧
        Q (.int .i64 x42) (h_42.setIfInBounds D (.deferred none))
       else
        aS l_0 fun a9=>
        Ld h_42 (a9.add 0) fun v21=>DP v21 fun x43=>
        aS l_0 fun a10=>
        Ld h_42 (a10.add 1) fun v22=>DS v22 fun x44=>
        Ld h_42 (Addr.mk b1 0 none) fun v23=>DI .i64 v23 fun x45=>
        aC prog 35 [.int .i64 x45] h_42 fun r33 h_43=>
        DS r33 fun x46=>
        (aG (some (.pointer l_0)) (.pointer l_0))∧
        (aS l_0 fun a11=>
        aG (some (.pointer (some a9))) (.pointer (some a11)))∧
        (aG (some (.pointer (some (a9.add 0)))) (.pointer (some (a9.add 0))))∧
        (Ld h_43 (a9.add 0) fun v24=>DP v24 fun x47=>
        aG (some (.pointer x43)) (.pointer x47))∧
        (aG (some (.pointer l_0)) (.pointer l_0))∧
        (aS l_0 fun a12=>
        aG (some (.pointer (some a10))) (.pointer (some a12)))∧
        (aG (some (.pointer (some (a10.add 1)))) (.pointer (some (a10.add 1))))∧
        (Ld h_43 (a10.add 1) fun v25=>DS v25 fun x48=>
        aG (some (.string x44)) (.string x48))∧
        (aG (some (.slice x41a x41l x41c)) (.slice x41a x41l x41c))∧
        (⟨#[102,46]⟩:ByteArray).size+(x46:ByteArray).size≤9223372036854775807∧
        aC prog 40 [.pointer x43,.string x44,.string (⟨#[102,46]⟩++x46),.slice x41a x41l x41c] h_43 fun r34 h_44=>
        DI .i64 r34 fun e1=>
        (bif (e1:Int)!=0 then
         h_44[D]? = some (.deferred (some []))∧
         Q (.int .i64 e1) (h_44.setIfInBounds D (.deferred none))
        else
         Al h_44 (.map #[] 0) fun b5 h_45=>
         aC prog 42 [.pointer l_0] h_45 fun r36 h_46=>
         DM r36 fun x49=>
         aX prog (Instr.range 78 (.map x49)) h_46 fun r37 h_47=>
         DP r37 fun p3=>
         aZ (fun again3 (s3:Unit) h_48=>
          aX prog (Instr.next (.pointer p3) false 0) h_48 fun r38 h_49=>
          (
           r38=.tuple #[.bool false]∧
           aS l_0 fun a13=>
           Ld h_49 (a13.add 3) fun v26=>DM v26 fun x51=>
           Ld h_49 (Addr.mk b1 0 none) fun v27=>DI .i64 v27 fun x52=>
           aX prog (Instr.mapEntry 80 (.map x51) (.int .i64 x52)) h_49 fun r39 h_50=>
           ∃ (x53:Value),∃ (x54:Int),r39=.tuple #[x53,.int .i64 x54]∧
           (aG (some (.pointer l_0)) (.pointer l_0))∧
           (aG (some (.map (some b5))) (.map (some b5)))∧
           fW prog (Instr.entryStore 80 (.map x51) (.int .i64 x54) (.bool true)) h_50 fun h_51=>
           (aG (some (.pointer l_0)) (.pointer l_0))∧
           (aG (some (.map (some b5))) (.map (some b5)))∧
           aS l_0 fun a14=>
           bz h_51 ((a14.add 4).add 0) (.map (some b5)) fun h_53=>
           aC prog 44 [.pointer l_0,.func (.func 45) #[] #[.pointer (some (Addr.mk b1 0 none))]] h_53 fun r42 h_54=>
           DI .i64 r42 fun x55=>
           h_54[D]? = some (.deferred (some []))∧
           Q (.int .i64 x55) (h_54.setIfInBounds D (.deferred none)))∨(
           ∃ (k3 x50:Value),r38=.tuple #[.bool true,k3,x50]∧
           aX prog (Instr.entry (.pointer p3)) h_49 fun r43 h_55=>
           ∃ (x56:Int),∃ (x57a:Option Addr),∃ (x57l:Nat),∃ (x57c:Nat),r43=.tuple #[.int .i64 x56,.slice x57a x57l x57c]∧
           Ld h_55 (Addr.mk b1 0 none) fun v28=>DI .i64 v28 fun x58=>
           (bif decide ((x56:Int)≤x58) then
            fW prog (Instr.mapUpdate 78 (.map (some b5)) (.int .i64 x56) (.slice x57a x57l x57c)) h_55 fun h_56=>
            again3 () h_56
           else
            again3 () h_55))) () h_47))))∨(
      ∃ (k2 x39:Value),r31=.tuple #[.bool true,k2,x39]∧
      aX prog (Instr.entry (.pointer p2)) h_41 fun r45 h_57=>
      ∃ (x59:Int),∃ (x60:Value),r45=.tuple #[.int .i64 x59,x60]∧
      (bif s2 then
       Ld h_57 (Addr.mk b1 0 none) fun v29=>DI .i64 v29 fun x61=>
       again2 (decide ((x59:Int)>x61)) h_57
      else
       again2 false h_57))) false h_39))
def kj (E:fe):List (ByteArray×ByteArray):=E.map fun p=>(AF.lK p.1,bT p.2)
theorem sF {E:fe} (h:∀ p∈E,B8 p.2):dE (kj E)=AF.bC E:=by
 unfold dE kj AF.bC
 congr 1
 rw [map_map]
 apply map_congr_left
 intro p hp
 simp only [Function.comp]
 rw [bM (h p hp)]
def dW (E:fe) (m:Int):fe:=E.filter fun p=>decide (p.1≤m)
theorem zO (E:fe) (m k:Int):cg (dW E m) k=if k≤m then cg E k else none:=by
 unfold dW
 rw [pM (fun n=>decide (n≤m)) E k]
 simp
def td (M:bA) (A:AF.FS) (last:Int):AF.FS×bA×Nat:=
 if 16777216<(AF.bC (dW M.entries last)).length then (A,M,42) else
 if (A.put M.dir (cu 102 last) (AF.bC (dW M.entries last))).2≠0 then ((A.put M.dir (cu 102 last) (AF.bC (dW M.entries last))).1,M,(A.put M.dir (cu 102 last) (AF.bC (dW M.entries last))).2) else
 bA.remove { M with Fo:=bR last () M.Fo,D:=dW M.entries last } (A.put M.dir (cu 102 last) (AF.bC (dW M.entries last))).1
  fun c n=>if c=98 then decide (n≤last) else decide (n≠last)
section
variable {F:List aE} {h:Heap} {b fsb:Nat} {M:bA} {A:AF.FS}
theorem CY {b1:Nat} {last:Int} {F':List aE} {h':Heap} (c:Nat) (n:Int) (hc:c=98∨c=102) (H:aD (pt b1 (.cells #[.int .i64 last] 2 (0,0))::F') h') :
  cB prog (.func (.func 45) #[] #[aI b1]) [.int .u8 (c:Int),.int .i64 n] h' fun v h''=>v=.bool (if c=98 then decide (n≤last) else decide (n≠last))∧h''=h':=by
 refine fO ?_
 apply Ip.ap
 unfold MU
 rcases hc with rfl | rfl
 · rw [show ((((98:Nat):Int))==98)=true from rfl,ab];refine pS H.get ?_;by_cases h:n≤last
   · rw [af h,ab];exact ⟨rfl,rfl⟩
   · rw [ae h,aa,show ((((98:Nat):Int))==102)=false from rfl,aa];exact ⟨rfl,rfl⟩
 · rw [show ((((102:Nat):Int))==98)=false from rfl,aa,show ((((102:Nat):Int))==102)=true from rfl,ab];refine pS H.get ?_;refine ⟨?_,rfl⟩;rw [ak (by decide)];by_cases h:n=last
   · rw [ae (fun hh=>hh h),h];simp
   · rw [af h];simp [h]
set_option maxHeartbeats 1000000 in
theorem xL {b1 b2 D:Nat} {last:Int} {pa:Option Addr} {pc:Nat} {Q:Value→Heap→Prop} (W:A.WF) (hs:A.steps+M.S.length+M.Fo.length+30<1099511627776) (hd:M.dir.size<4611686018427387904)
  (hE:∀ p∈M.entries,B8 p.2∧p.2.length≤1000000000) (hEl:M.entries.length<1000000000) (hsz:(AF.bC (dW M.entries last)).length≤1099511627776)
  (H:aD (pt b1 (.cells #[.int .i64 last] 2 (0,0))::pt b2 (.cells #[.slice pa (dW M.entries last).length pc] 96 (0,0))::aL 98 2 pa (dW M.entries last).length pc ((kj (dW M.entries last)).flatMap bV)::cK D::cP b fsb M::co fsb A::F) h)
  (hQ:∀ v h',yo b fsb A (M.S.length+M.Fo.length+10) (td M A last) F v h'→Q v h'):B9 (some ⟨b,0,none⟩) b1 b2 D h Q:=by
 unfold B9
 generalize hU:dW M.entries last=U at *
 have hUm:∀ p∈U,p∈M.entries:=fun p hp=>by rw [← hU] at hp; exact (List.mem_filter.1 hp).1
 have hUl:U.length<1000000000:=by
  have:(dW M.entries last).length≤M.entries.length:=length_filter_le _ _;rw [hU] at this;omega
 have hpU:dE (kj U)=AF.bC U:=sF fun p hp=>(hE p (hUm p hp)).1
 have hplen:(kj U).length=U.length:=an _
 refine xh (H.mv 1).get ?_
 have hr:∀ h',aD (pt b1 (.cells #[.int .i64 last] 2 (0,0))::pt b2 (.cells #[.slice pa U.length pc] 96 (0,0))::aL 98 2 pa U.length pc ((kj U).flatMap bV)::cK D::cP b fsb M::co fsb A::F) h'→dF h' pa ((kj U).flatMap bV):=fun h' hh=>aH (hh.mv 2)
 refine (CZ hr hplen (by omega) (fun p hp=>?_) (by rw [hpU]; exact hsz) H).mono ?_
 · obtain ⟨q,hq,rfl⟩:=List.mem_map.1 hp;have h1:=hE q (hUm q hq);have h2:(bT q.2).size=q.2.length:=by rw [← bd,bM h1.1]
   have h3:=AF.jL q.1;rw [bd] at h3;exact ⟨by simp only []; omega,by simp only []; omega⟩
 rw [hpU]
 rintro v h1 (⟨hbig,rfl,H1⟩ | ⟨hbig,a,c,rfl,H1⟩)
 · refine ⟨none,0,0,42,rfl,?_⟩;rw [show ((42:Int)!=0)=true from rfl,ab];refine ⟨(H1.mv 3).get,hQ _ _ ?_⟩;have H2:=(H1.mv 3).set (.deferred none);unfold td;rw [hU,al hbig];exact ⟨rfl,W,Nat.le_add_right _ _,H2.ordT 6 [4,5]⟩
 refine ⟨a,_,c,0,rfl,?_⟩
 rw [show ((0:Int)!=0)=false from rfl,aa,aP]
 obtain ⟨ms,mf,mm,H2⟩:=eO (H1.mv 5)
 refine mK (x:=fsb) H2 rfl ?_
 rw [aP]
 refine bI (x:=M.dir) H2 rfl ?_
 refine pS (H2.mv 5).get ?_
 refine (jy (n:=last) H2).mono ?_
 rintro v h2 ⟨rfl,H3⟩
 rw [aW]
 refine ⟨rfl,rfl,rfl,mK (x:=fsb) H3 rfl rfl,rfl,rfl,rfl,bI (x:=M.dir) H3 rfl rfl,rfl,?_,?_⟩
 · have:=fo 102 last;rw [show (cu 102 last).size=((⟨#[102,46]⟩:ByteArray)++bT (cU 16 (eY last))).size from rfl,ByteArray.size_append] at this;omega
 have hrb:∀ h',aD (pt b (.cells (fk fsb M.dir ms mf mm) 82 (0,0))::bP Bs ms M.S::bP Bb mf M.Fo::bP Bs mm M.D::aL 5 1 a (AF.bC U).length c ((AF.bC U).map nv)::pt b1 (.cells #[.int .i64 last] 2 (0,0))::pt b2 (.cells #[.slice pa U.length pc] 96 (0,0))::aL 98 2 pa U.length pc ((kj U).flatMap bV)::cK D::F) h'→dF h' a ((AF.bC U).map nv):=fun h' hh=>aH (hh.mv 4)
 refine (wV (bs:=AF.bC U) (name:=cu 102 last) W (by omega) hd (by rw [fo]; decide) hrb (AF.oT fun p hp=>(hE p (hUm p hp)).1) rfl (by omega) (H3.mv 9)).mono ?_
 rintro v h3 ⟨rfl,W3,hs3,H4⟩
 rw [aJ]
 by_cases he0:(A.put M.dir (cu 102 last) (AF.bC U)).2≠0
 · have he:=he0;rw [bo he,ab];refine ⟨(H4.mv 9).get,hQ _ _ ?_⟩;have H5:=(H4.mv 9).set (.deferred none);unfold td;rw [hU,ak (by omega),al he];refine ⟨rfl,W3,by simp only []; omega,?_⟩;exact dh (H5.ordT 10 [2,3,4,5,1])
 have he:(A.put M.dir (cu 102 last) (AF.bC U)).2=0:=by omega
 rw [he,show (((0:Nat):Int)!=0)=false from rfl,aa]
 refine aQ H4 fun b4 h4 H5=>?_
 have H6:=j8 (R:=Bs) H5
 have H7:aD (cP b fsb M::bP Bs b4 []::co fsb (A.put M.dir (cu 102 last) (AF.bC U)).1::pt b1 (.cells #[.int .i64 last] 2 (0,0))::cK D::F) h4:=dh (H6.ordT 11 [2,3,4,5,0,1,7,10])
 refine (l9 H7).mono ?_
 rintro v h5 ⟨eb,rfl,H8⟩
 rw [bY]
 obtain ⟨m,H9⟩:=eg H8
 obtain ⟨es,clock,hm,H10⟩:=cx H9
 have I:=eV (H10.mv 1)
 have hSu:=I.up
 have hperm:=I.perm hm.nodup
 refine eN (k:=2) (e:=31) (by kernel_rfl) H10 H10.get fun r h6 H11=>?_
 rw [bD]
 generalize hA1:(A.put M.dir (cu 102 last) (AF.bC U)).1=A1 at *
 refine lE (mb:=eb) hm (fun _=>()) (G:=fun done=>[mu fun T':fe=>cr [iJ (∀ k,cg T' k=if k∈done.map (·.1)∧k≤last then cg M.entries k else none),bP Bs b4 T'],kh (dr Bs m M.entries),pt b1 (.cells #[.int .i64 last] 2 (0,0)),cP b fsb M,co fsb A1,cK D]++F) ?_ ?_ ?_
 · have H12:=H11.ordT 8 [4,0,1,2,6,3,5,7];have P:∀ k,cg ([]:fe) k=if k∈([]:List (Int×Value)).map (·.1)∧k≤last then cg M.entries k else none:=fun k=>by simp [cg]
   have H13:=rj (A:=fun T':fe=>cr [iJ (∀ k,cg T' k=if k∈([]:List (Int×Value)).map (·.1)∧k≤last then cg M.entries k else none),bP Bs b4 T']) [] (aD.shut (m:=[_,_]) (bh.2 ⟨P,H12⟩));exact H13.bk 2
 · intro done h7 hp H12;obtain ⟨T',H13⟩:=bg.1 (H12.mv 1);obtain ⟨hk,H14⟩:=bh.1 H13.open;have hT':=nH H14;have eT:T'=U:=by
    refine qn hT' (by rw [← hU]; exact zU hSu) fun k=>?_;rw [hk,← hU,zO];have h1:k∈done.map (·.1)↔k∈M.entries.map (·.1):=(hp.map (·.1)).mem_iff.trans hperm.mem_iff;by_cases hkl:k≤last
    · simp only [hkl,and_true,if_true]
      cases hg:cg M.entries k with
      | none=>simp
      | some x=>rw [al (h1.2 (List.mem_map.2 ⟨_,fM hg,rfl⟩))]
    · simp [hkl]
   subst eT;rw [aP];obtain ⟨ms,mf,mm,H15⟩:=eO (H14.mv 4);refine lf (x:=mf) H15 rfl ?_;refine pS (H15.mv 7).get ?_;obtain ⟨fm,H16⟩:=eg (H15.mv 2);refine ux (E:=bN .i64) (k:=last) (kt:=2) (et:=4) (by kernel_rfl) (by kernel_rfl) Tryz.zeroValue4 H16 fun v n es2 clock2 h8 hm2 hat H17=>?_;refine ⟨v,(n:Int),rfl,rfl,rfl,?_⟩;refine rk hm2 hat H17 fun h9 H18=>?_;rw [zj] at H18;refine ⟨rfl,rfl,?_⟩;rw [aP,aV];have H19:aD (bP Bb mf (bR last () M.Fo)::_) h9:=gj (m:=gt fm last (.bool true)) ((dX (fun _ hh=>dr.set (x:=()) hh (show Bb () (.bool true) _ from rfl)) (H18.mv 1)).mv 1);refine bQ (c':=fk fsb M.dir ms mf b4) (H19.mv 1) (show 4<5 by decide) rfl fun h10 H20=>?_;have H21:aD (cP b fsb { M with Fo:=bR last () M.Fo,D:=T' }::co fsb A1::pt b1 (.cells #[.int .i64 last] 2 (0,0))::cK D::F) h10:=dh (M:={ M with Fo:=bR last () M.Fo,D:=T' }) (H20.ordT 10 [0,2,1,4,8,7,9]);have hfl:(bR last () M.Fo).length≤M.Fo.length+1:=(AF.eS _ _ _).1;refine (wU (M:={ M with Fo:=bR last () M.Fo,D:=T' }) (A:=A1) (p:=fun c n=>if c=98 then decide (n≤last) else decide (n≠last)) (fun c n F' h' hc hh=>CY c n hc hh) W3 (by simp only []; omega) hd H21).mono ?_;rintro v h11 ⟨rfl,W4,hs4,H22⟩;rw [aJ];refine ⟨(H22.mv 3).get,hQ _ _ ?_⟩;have H23:=(H22.mv 3).set (.deferred none);unfold td;rw [hU,ak (by omega),he,ak (fun hh=>hh rfl),hA1];refine ⟨rfl,W4,?_,H23.ordT 4 [1,2]⟩;simp only [] at hs4 ⊢;omega
 · rintro o done k v h7 again ⟨rest,hp⟩ H12 hag;obtain ⟨T',H13⟩:=bg.1 (H12.mv 2);obtain ⟨hk,H14⟩:=bh.1 H13.open;have hmem:(k,v)∈m:=hp.mem_iff.1 (by simp);have H15:=nO (H14.mv 3);have I2:=eV H15;obtain ⟨x,hx,a,c,rfl,hR⟩:=I2.vals k v hmem;refine ⟨k,a,x.length,c,rfl,?_⟩;refine pS (H14.mv 4).get ?_;have hgx:=cZ hSu hx;by_cases hkl:k≤last
   · rw [af hkl,ab];have H16:=dX (S:=Bs x (.slice a x.length c)) (fun h I=>by
      obtain ⟨y,hy,hr⟩:=I.vals k _ hmem;have:y=x:=by
       have h1:=hgx;rw [cZ hSu hy] at h1;cases h1
       rfl
      rw [← this] at hr ⊢;exact hr) H15
     refine mh (kt:=2) (et:=31) (x:=x) (by kernel_rfl) (by kernel_rfl) (H16.ordT 9 [2,0,3,4,1,5,6,7,8]) fun h8 H17=>?_;refine hag h8 ?_;have P:∀ j,cg (bR k x T') j=if j∈(done++[(k,Value.slice a x.length c)]).map (·.1)∧j≤last then cg M.entries j else none:=by
      intro j;by_cases e:j=k
      · subst e;rw [fQ,al ⟨by simp,hkl⟩,hgx]
      · have hm2:j∈(done++[(k,Value.slice a x.length c)]).map (·.1)↔j∈done.map (·.1):=by
         rw [map_append,mem_append];exact ⟨fun h=>h.elim id fun h=>absurd (by simpa using h) e,.inl⟩
        rw [gP _ (Ne.symm e),hk];simp only [hm2]
     have H18:=rj (A:=fun T':fe=>cr [iJ (∀ j,cg T' j=if j∈(done++[(k,Value.slice a x.length c)]).map (·.1)∧j≤last then cg M.entries j else none),bP Bs b4 T']) (bR k x T') (aD.shut (m:=[_,_]) (bh.2 ⟨P,H17⟩));exact H18.bk 2
   · rw [ae hkl,aa];refine hag h7 ?_;have P:∀ j,cg T' j=if j∈(done++[(k,Value.slice a x.length c)]).map (·.1)∧j≤last then cg M.entries j else none:=by
      intro j;rw [hk];by_cases e:j=k
      · subst e;simp [hkl]
      · have hm2:j∈(done++[(k,Value.slice a x.length c)]).map (·.1)↔j∈done.map (·.1):=by
         rw [map_append,mem_append];exact ⟨fun h=>h.elim id fun h=>absurd (by simpa using h) e,.inl⟩
        simp only [hm2]
     have H18:=rj (A:=fun T':fe=>cr [iJ (∀ j,cg T' j=if j∈(done++[(k,Value.slice a x.length c)]).map (·.1)∧j≤last then cg M.entries j else none),bP Bs b4 T']) T' (aD.shut (m:=[_,_]) (bh.2 ⟨P,H14⟩));exact H18.bk 2
end
theorem uA:jY prog 98 2 32=true:=by kernel_rfl
theorem D3:prog.underlying 96=some (.slice 98):=by kernel_rfl
theorem uf:fS prog 96=true:=by kernel_rfl
section
variable {F:List aE} {h:Heap} {b fsb:Nat} {M:bA} {A:AF.FS}
def re (M:bA) (A:AF.FS) (last:Int):AF.FS×bA×Nat:=
 if last<0 then (A,M,91) else if bm M.Fo=last∧M.Fo.length=1∧∀ p∈M.S,last<p.1 then (A,M,0) else td M A last
theorem Ew (upto:Int):M.fold A upto=re M A (bm (dW M.entries (max upto (bm M.Fo)))):=by
 unfold AF.bA.fold re td
 have e:M.entries.filter (fun p=>decide (p.1≤max upto (bm M.Fo)))=dW M.entries (max upto (bm M.Fo)):=rfl
 simp only [e]
 generalize hs:dW M.entries (max upto (bm M.Fo))=some
 have hsm:∀ p∈some,p∈M.entries∧p.1≤max upto (bm M.Fo):=fun p hp=>by rw [← hs] at hp; have:=List.mem_filter.1 hp; exact ⟨this.1,by simpa using this.2⟩
 have hms:∀ p∈M.entries,p.1≤max upto (bm M.Fo)→p∈some:=fun p hp hl=>by rw [← hs]; exact List.mem_filter.2 ⟨hp,by simpa using hl⟩
 by_cases h0:bm some<0
 · rw [al h0,al h0]
 rw [ak h0,ak h0]
 obtain ⟨pl,hpl,epl⟩:=AF.iT (T:=some) (by omega)
 have hfil:M.entries.filter (fun p=>decide (p.1≤bm some))=some:=by
  conv=>rhs; rw [← hs]; unfold dW
  apply filter_congr;intro p hp;have h1:bm some≤max upto (bm M.Fo):=by rw [← epl]; exact (hsm pl hpl).2
  by_cases h:p.1≤max upto (bm M.Fo)
  · have:=AF.gU (hms p hp h);simp [h,this]
  · have:¬ p.1≤bm some:=by omega
    simp [h,this]
 have hfil2:dW M.entries (bm some)=some:=hfil
 rw [hfil2,hfil]
set_option maxHeartbeats 1000000 in
theorem xK {b1 b2 D:Nat} {last:Int} {pa:Option Addr} {pc:Nat} {Q:Value→Heap→Prop} (W:A.WF) (hs:A.steps+M.S.length+M.Fo.length+30<1099511627776) (hd:M.dir.size<4611686018427387904)
  (hE:∀ p∈M.entries,B8 p.2∧p.2.length≤1000000000) (hEl:M.entries.length<1000000000) (hsz:(AF.bC (dW M.entries last)).length≤1099511627776)
  (H:aD (pt b1 (.cells #[.int .i64 last] 2 (0,0))::pt b2 (.cells #[.slice pa (dW M.entries last).length pc] 96 (0,0))::aL 98 2 pa (dW M.entries last).length pc ((kj (dW M.entries last)).flatMap bV)::cK D::cP b fsb M::co fsb A::F) h)
  (hQ:∀ v h',yo b fsb A (M.S.length+M.Fo.length+10) (re M A last) F v h'→Q v h'):B7 (some ⟨b,0,none⟩) b1 b2 D h Q:=by
 unfold B7
 refine pS H.get ?_
 by_cases hneg:last<0
 · rw [af hneg,ab];refine ⟨(H.mv 3).get,hQ _ _ ?_⟩;have H2:=(H.mv 3).set (.deferred none);unfold re;rw [al hneg];exact ⟨rfl,W,Nat.le_add_right _ _,H2.ordT 6 [4,5]⟩
 rw [ae hneg,aa]
 refine pS H.get ?_
 refine (oD (H.mv 4)).mono ?_
 rintro v h1 ⟨rfl,H1⟩
 rw [aJ]
 refine ⟨pS (H1.mv 1).get rfl,?_⟩
 have loop:∀ (s0:Bool) (h2:Heap) (r:Nat) (ms mf mm:Nat) (m:List (Int×Value)) (es:Array MapEntry) (clock:Nat) (hm:dG (bN .i64) es clock m) (hc:s0=true→bm M.Fo=last∧M.Fo.length=1) (hc2:s0=false→¬ (bm M.Fo=last∧M.Fo.length=1))
   (H2:aD (pt r (.mapIter (some ms) clock #[] clock)::pt ms (.map es clock)::kh (dr Bs m M.S)::pt b (.cells (fk fsb M.dir ms mf mm) 82 (0,0))::bP Bb mf M.Fo::bP Bs mm M.D::pt b1 (.cells #[.int .i64 last] 2 (0,0))::pt b2 (.cells #[.slice pa (dW M.entries last).length pc] 96 (0,0))::aL 98 2 pa (dW M.entries last).length pc ((kj (dW M.entries last)).flatMap bV)::cK D::co fsb A::F) h2),
   aZ (fun again0 (s0:Bool) h_21=>
    aX prog (Instr.next (.pointer (some ⟨r,0,none⟩)) false 0) h_21 fun r15 h_22=>
    (r15=.tuple #[.bool false]∧
     (bif s0 then h_22[D]? = some (.deferred (some []))∧Q (.int .i64 0) (h_22.setIfInBounds D (.deferred none)) else B9 (some ⟨b,0,none⟩) b1 b2 D h_22 Q))∨
    (∃ (k0 x15:Value),r15=.tuple #[.bool true,k0,x15]∧
     aX prog (Instr.entry (.pointer (some ⟨r,0,none⟩))) h_22 fun r29 h_38=>
     ∃ (x35:Int),∃ (x36:Value),r29=.tuple #[.int .i64 x35,x36]∧
     (bif s0 then
      Ld h_38 (Addr.mk b1 0 none) fun v18=>DI .i64 v18 fun x37=>
      again0 (decide ((x35:Int)>x37)) h_38
     else again0 false h_38))) s0 h2:=by
  intro s0 h2 r ms mf mm m es clock hm hc hc2 H2;have I:=eV (H2.mv 2);have hperm:=I.perm hm.nodup;have hst:s0=(s0&&([]:List (Int×Value)).all fun p=>decide (last<p.1)):=by simp
  rw [hst];refine lE hm (fun done=>s0&&done.all fun p=>decide (last<p.1)) (G:=fun _=>kh (dr Bs m M.S)::pt b (.cells (fk fsb M.dir ms mf mm) 82 (0,0))::bP Bb mf M.Fo::bP Bs mm M.D::pt b1 (.cells #[.int .i64 last] 2 (0,0))::pt b2 (.cells #[.slice pa (dW M.entries last).length pc] 96 (0,0))::aL 98 2 pa (dW M.entries last).length pc ((kj (dW M.entries last)).flatMap bV)::cK D::co fsb A::F) H2 ?_ ?_
  · intro done h3 hp H3;have hall:(done.all fun p=>decide (last<p.1))=true↔∀ p∈M.S,last<p.1:=by
     rw [all_eq_true];have hmem:∀ k,k∈done.map (·.1)↔k∈M.S.map (·.1):=fun k=>(hp.map (·.1)).mem_iff.trans hperm.mem_iff;constructor
     · intro h p hp2;obtain ⟨q,hq,e⟩:=List.mem_map.1 ((hmem p.1).2 (List.mem_map.2 ⟨p,hp2,rfl⟩));have:=h q hq;rw [e] at this;simpa using this
     · intro h p hp2;obtain ⟨q,hq,e⟩:=List.mem_map.1 ((hmem p.1).1 (List.mem_map.2 ⟨p,hp2,rfl⟩));have:=h q hq;rw [e] at this;simpa using this
    have H4:aD (bP Bs ms M.S::pt b (.cells (fk fsb M.dir ms mf mm) 82 (0,0))::bP Bb mf M.Fo::bP Bs mm M.D::pt b1 (.cells #[.int .i64 last] 2 (0,0))::pt b2 (.cells #[.slice pa (dW M.entries last).length pc] 96 (0,0))::aL 98 2 pa (dW M.entries last).length pc ((kj (dW M.entries last)).flatMap bV)::cK D::co fsb A::F) h3:=gj (cw hm H3);have H5:aD (cP b fsb M::pt b1 (.cells #[.int .i64 last] 2 (0,0))::pt b2 (.cells #[.slice pa (dW M.entries last).length pc] 96 (0,0))::aL 98 2 pa (dW M.entries last).length pc ((kj (dW M.entries last)).flatMap bV)::cK D::co fsb A::F) h3:=dh (H4.ordT 4 [1,0,2,3])
    cases hb:(s0&&done.all fun p=>decide (last<p.1)) with
    | true=>
      rw [ab];rw [aw] at hb;obtain ⟨c1,c2⟩:=hc hb.1;refine ⟨(H5.mv 4).get,hQ _ _ ?_⟩;have H6:=(H5.mv 4).set (.deferred none);unfold re;rw [ak hneg,al ⟨c1,c2,hall.1 hb.2⟩];exact ⟨rfl,W,Nat.le_add_right _ _,H6.ordT 6 [1,5]⟩
    | false=>
      rw [aa];refine xL W hs hd hE hEl hsz (H5.ordT 6 [1,2,3,4,0,5]) fun v h' hc3=>hQ v h' ?_;have hno:¬ (bm M.Fo=last∧M.Fo.length=1∧∀ p∈M.S,last<p.1):=by
       rintro ⟨c1,c2,c3⟩
       cases s0 with
       | true=>
         rw [Bool.true_and,hall.2 c3] at hb;cases hb
       | false=>exact hc2 rfl ⟨c1,c2⟩
      unfold re;rw [ak hneg,ak hno];exact hc3
  · rintro o done k v h3 again ⟨rest,hp⟩ H3 hag;refine ⟨k,v,rfl,?_⟩;have e:(s0&&(done++[(k,v)]).all fun p=>decide (last<p.1))=((s0&&done.all fun p=>decide (last<p.1))&&decide (last<k)):=by
     rw [List.all_append,Bool.and_assoc];simp
    have h4:=hag h3 H3;rw [e] at h4
    cases hb:(s0&&done.all fun p=>decide (last<p.1)) with
    | true=>
      rw [ab];refine pS (H3.mv 6).get ?_;rw [hb,Bool.true_and] at h4;exact h4
    | false=>
      rw [aa];rw [hb,Bool.false_and] at h4;exact h4
 obtain ⟨ms,mf,mm,H2⟩:=eO H1
 by_cases hx:bm M.Fo=last
 · rw [show (bm M.Fo==last)=true from by rw [hx]; exact beq_self_eq_true _,ab,aP];refine lf (x:=mf) H2 rfl ?_;obtain ⟨es0,f0,he0,hsz0,_⟩:=nG (H2.mv 2) 0;refine ⟨es0,he0,?_⟩;rw [aP];refine lf (x:=ms) H2 rfl ?_;obtain ⟨m,H3⟩:=eg (H2.mv 1);obtain ⟨es,clock,hm,H4⟩:=cx H3;refine eN (k:=2) (e:=31) (by kernel_rfl) H4 H4.get fun r h2 H5=>?_;rw [bD];refine loop _ h2 r ms mf mm m es clock hm ?_ ?_ H5
   · intro hh;refine ⟨hx,?_⟩;rw [hsz0] at hh;have:(M.Fo.length:Int)=1:=by simpa using hh
     omega
   · rintro hh ⟨_,c2⟩;rw [hsz0,c2] at hh;exact absurd hh (by decide)
 · rw [show (bm M.Fo==last)=false from beq_eq_false_iff_ne.2 hx,aa,aP];refine lf (x:=ms) H2 rfl ?_;obtain ⟨m,H3⟩:=eg (H2.mv 1);obtain ⟨es,clock,hm,H4⟩:=cx H3;refine eN (k:=2) (e:=31) (by kernel_rfl) H4 H4.get fun r h2 H5=>?_;rw [bD];exact loop _ h2 r ms mf mm m es clock hm (fun hh=>by cases hh) (fun _ hh=>hx hh.1) H5
end
section
variable {F:List aE} {h:Heap} {b fsb:Nat} {M:bA} {A:AF.FS}
theorem zl {α:Type} {l:List (Int×α)} {p:Int×α} (hu:gQ (l++[p])) (h0:0≤p.1):bm (l++[p])=p.1:=by
 have e:bm (l++[p])=max (bm l) p.1:=by
  unfold AF.bm;rw [map_append,foldl_append]
  rfl
 rw [e]
 have h1:bm l<p.1:=by
  rcases Int.lt_or_le (-1) (bm l) with h | h
  · obtain ⟨q,hq,e2⟩:=AF.iT h;rw [← e2];exact (List.pairwise_append.1 hu).2.2 q hq p (by simp)
  · omega
 omega
theorem sh {E:fe} {m:Int} (hu:gQ E) {i:Nat} (h1:∀ j p,j<i→E[j]? = some p→p.1≤m) (h2:∀ j p,i≤j→E[j]? = some p→m<p.1):dW E m=E.take i:=by
 unfold dW
 conv=>lhs; rw [← take_append_drop i E]
 rw [filter_append]
 have e1:(E.take i).filter (fun p=>decide (p.1≤m))=E.take i:=by
  apply List.filter_eq_self.2;intro p hp;obtain ⟨j,hj⟩:=List.mem_iff_getElem?.1 hp;have hji:j<i:=by
   have:=(aj.1 hj).1;rw [aq] at this;omega
  rw [List.getElem?_take_of_lt hji] at hj;exact af (h1 j p hji hj)
 have e2:(E.drop i).filter (fun p=>decide (p.1≤m))=[]:=by
  apply List.filter_eq_nil_iff.2;intro p hp;obtain ⟨j,hj⟩:=List.mem_iff_getElem?.1 hp;rw [getElem?_drop] at hj;have:=h2 (i+j) p (by omega) hj;simp;omega
 rw [e1,e2,append_nil]
def we (b0 b1 b2 b fsb:Nat) (m:Int) (M:bA) (A:AF.FS) (F:List aE) (U:fe):List aE:=
 pt b0 (.cells #[.int .i64 m] 2 (0,0))::pt b1 (.cells #[.int .i64 (bm U)] 2 (0,0))::(mu fun q:Option Addr×Nat=>cr [pt b2 (.cells #[.slice q.1 U.length q.2] 96 (0,0)),aL 98 2 q.1 U.length q.2 ((kj U).flatMap bV)])::cP b fsb M::co fsb A::F
set_option maxHeartbeats 1000000 in
theorem w7 {upto:Int} (W:A.WF) (hs:A.steps+M.S.length+M.Fo.length+30<1099511627776) (hd:M.dir.size<4611686018427387904)
  (hE:∀ p∈M.entries,0≤p.1∧B8 p.2∧p.2.length≤1000000000) (hEl:M.entries.length<1000000000) (hsz:∀ m,(AF.bC (dW M.entries m)).length≤1099511627776)
  (H:aD (cP b fsb M::co fsb A::F) h):aC prog 13 [aI b,.int .i64 upto] h (yo b fsb A (M.S.length+M.Fo.length+10) (M.fold A upto) F):=by
 apply I7.ap
 unfold Nr
 rw [show (some (⟨b,0,none⟩:Addr)).isNone=false from rfl,aa]
 refine (oD H).mono ?_
 rintro v h1 ⟨rfl,H1⟩
 rw [aJ]
 generalize hm:max upto (bm M.Fo)=m
 have em:(if bm M.Fo>upto then bm M.Fo else upto)=m:=by rw [← hm]; split <;> omega
 rw [em]
 refine aQ H1 fun b0 h2 H2=>?_
 refine bQ H2 (show 0<1 by decide) rfl fun h3 H3=>?_
 refine aQ H3 fun b1 h4 H4=>?_
 refine bQ H4 (show 0<1 by decide) rfl fun h5 H5=>?_
 refine aQ H5 fun b2 h6 H6=>?_
 refine (l9 (H6.mv 3)).mono ?_
 rintro v h7 ⟨eb,rfl,H7⟩
 rw [bY]
 have hu:=nH H7
 refine (oC H7 (by omega)).mono ?_
 rintro v h8 ⟨kb,tb,a,c,s,rfl,hsk,hnd,H8⟩
 have hsl:s.length=M.entries.length:=by
  have:=congrArg List.length hsk;simpa using this
 refine ⟨_,rfl,?_⟩
 have H9:aD (cW Bs kb tb eb a c 78 s 0 M.entries::iJ (∀ j p,j<0→M.entries[j]? = some p→p.1≤m)::we b0 b1 b2 b fsb m M A F (M.entries.take 0)) h8:=by
  have K1:=bE 98 2 (H8.ordT 6 [2,4,3,1,5,0]);have K2:=rj (A:=fun q:Option Addr×Nat=>cr [pt b2 (.cells #[.slice q.1 (M.entries.take 0).length q.2] 96 (0,0)),aL 98 2 q.1 (M.entries.take 0).length q.2 ((kj (M.entries.take 0)).flatMap bV)]) (none,0) (aD.shut (m:=[_,_]) (K1.mv 1));have K3:aD (iJ (∀ j p,j<0→M.entries[j]? = some p→p.1≤m)::_) h8:=bh.2 ⟨fun j p hj=>absurd hj (by omega),K2⟩;exact K3.ordT 7 [6,0,2,3,1,4,5]
 have tail:∀ (U:fe) (h9:Heap),dW M.entries m=U→aD (cK h8.size::we b0 b1 b2 b fsb m M A F U) h9→B7 (some ⟨b,0,none⟩) b1 b2 h8.size h9 (yo b fsb A (M.S.length+M.Fo.length+10) (M.fold A upto) F):=by
  intro U h9 hU K;obtain ⟨⟨pa,pc⟩,K2⟩:=bg.1 (K.mv 3);have K3:=K2.open;have hU2:dW M.entries (bm U)=U:=by
   rw [← hU];unfold dW;apply filter_congr;intro p hp;by_cases h:p.1≤m
   · have hin:p∈M.entries.filter (fun p=>decide (p.1≤m)):=List.mem_filter.2 ⟨hp,by simpa using h⟩;have:=AF.gU hin;simp [h,this]
   · have:¬ p.1≤bm (M.entries.filter fun p=>decide (p.1≤m)):=by
      intro hh;have h0:=(hE p hp).1;obtain ⟨q,hq,e⟩:=AF.iT (T:=M.entries.filter fun p=>decide (p.1≤m)) (by omega);have:=(List.mem_filter.1 hq).2;simp only [decide_eq_true_eq] at this;omega
     simp [h,this]
  refine xK (F:=F) (fsb:=fsb) (last:=bm U) (pa:=pa) (pc:=pc) W hs hd (fun p hp=>(hE p hp).2) hEl (hsz _) ?_ ?_
  · rw [hU2];exact K3.ordT 7 [4,0,1,2,5,6]
  · intro v h' hc;have e:M.fold A upto=re M A (bm U):=by rw [Ew,hm,hU]
    rw [e];exact hc
 refine iy s (fun x=>[.int .i64 x.1,x.2]) (fun i=>cW Bs kb tb eb a c 78 s i M.entries) (fun i=>iJ (∀ j p,j<i→M.entries[j]? = some p→p.1≤m)::we b0 b1 b2 b fsb m M A F (M.entries.take i))
  (fun j=>iJ (j=.exit 0)::we b0 b1 b2 b fsb m M A F (dW M.entries m)) H9 (fun _=>rfl)
  (fun yv G' Out h1 hh r f=>mE (by omega) (fun _=>M.entries) ou yv G' Out h1 hh r f) ?_ ?_ ?_
 · intro i x L rec h9 Q hx K hgo hstop;obtain ⟨n,v⟩:=x;have hi:=(aj.1 hx).1;have HL:=K.get;obtain ⟨hle,K1⟩:=bh.1 (K.mv 3);obtain ⟨x,hgx,va,vc,rfl,hR⟩:=g9 (K1.mv 2) hx;have hki:(M.entries.map (·.1))[i]? = some n:=by rw [← hsk,getElem?_map,hx]; rfl
   have hei:M.entries[i]? = some (n,x):=by
    rw [getElem?_map] at hki
    cases he:M.entries[i]? with
    | none=>rw [he] at hki; cases hki
    | some p=>
      obtain ⟨p1,p2⟩:=p;rw [he] at hki;simp only [Option.map_some,Option.some.injEq] at hki;subst hki;have:=cZ hu (ai he);rw [hgx] at this;cases this
      rfl
   refine ⟨n,va,x.length,vc,rfl,HL,?_⟩;have K2:=K1.set (rec .busy none);refine pS (K2.mv 3).get ?_;by_cases hn:n>m
   · rw [af hn,ab];have hU:dW M.entries m=M.entries.take i:=by
      refine sh hu hle fun j p hj hp=>?_
      rcases Nat.lt_or_ge i j with hij | hij
      · have hp1:=List.pairwise_iff_getElem.1 hu;obtain ⟨a1,b1⟩:=aj.1 hei;obtain ⟨a2,b2⟩:=aj.1 hp;have:=hp1 i j a1 a2 hij;rw [b1,b2] at this;simp only at this;omega
      · have:j=i:=by omega
        subst this;rw [hei] at hp;cases hp;exact hn
     refine hstop (.exit 0) _ ?_;rw [hU];have K3:=(K2.mv 2).drop;exact (bh.2 ⟨rfl,K3⟩:aD (iJ (Code.exit 0=.exit 0)::_) _).bk 2
   · rw [ae hn,aa];refine bQ (K2.mv 4) (show 0<1 by decide) rfl fun h10 K3=>?_;have K4:=K3.bk 4;obtain ⟨⟨pa,pc⟩,K5⟩:=bg.1 (K4.mv 5);have K6:=K5.open;refine xh K6.get ?_;have hx8:=hE (n,x) (ai hei);have K7:=qF (K6.mv 4) hx hgx;have rd:∀ {h':Heap} {F':List aE},aD (kh (Bs x (.slice va x.length vc))::F') h'→dF h' va (x.map nv):=fun hh=>by
      obtain ⟨a',c',e,hr⟩:=eV hh;cases e;exact hr
     refine ⟨bT x,ct (rd K7) rfl hx8.2.1,?_⟩;refine (jy (n:=n) K7).mono ?_;rintro v h11 ⟨rfl,K8⟩;rw [aW];refine ⟨xh (K8.mv 2).get rfl,rfl,⟨bT x,ct (rd K8) rfl hx8.2.1,rfl⟩,?_⟩;refine aQ K8 fun b3 h12 K9=>?_;refine ⟨xh (K9.mv 3).get rfl,?_⟩;have hil:(M.entries.take i).length=i:=by rw [aq]; omega
     rw [hil] at K9 ⊢;refine jR D3 uf uA (K9.mv 4) (n:=1) (ys:=bV (AF.lK n,bT x)) (ce (ln K9 rfl) rfl) (by intro u hu; simp [bV] at hu; rcases hu with rfl | rfl <;> rfl) (by omega) fun a' c' h13 _ EL=>?_;rw [aF];refine bQ (EL.mv 4) (show 0<1 by decide) rfl fun h14 K11=>?_;have htk:M.entries.take (i+1)=M.entries.take i++[(n,x)]:=by rw [ax,hei]; rfl
     have htl:(M.entries.take (i+1)).length=i+1:=by rw [aq]; omega
     have hps:(kj (M.entries.take (i+1))).flatMap bV=(kj (M.entries.take i)).flatMap bV++bV (AF.lK n,bT x):=by
      rw [htk];unfold kj;rw [map_append,flatMap_append];simp
     have htop:bm (M.entries.take (i+1))=n:=by
      rw [htk];exact zl (by rw [← htk]; exact List.Pairwise.sublist (List.take_sublist _ _) hu) hx8.1
     have K12:=rj (A:=fun q:Option Addr×Nat=>cr [pt b2 (.cells #[.slice q.1 (M.entries.take (i+1)).length q.2] 96 (0,0)),aL 98 2 q.1 (M.entries.take (i+1)).length q.2 ((kj (M.entries.take (i+1))).flatMap bV)]) (a',c') (aD.shut (m:=[_,_]) (by rw [htl,hps]; exact K11));have K13:=kK (K12.mv 3);have P:∀ j p,j<i+1→M.entries[j]? = some p→p.1≤m:=fun j p hj hp=>by
      rcases Nat.lt_or_ge j i with h | h
      · exact hle j p h hp
      · have:j=i:=by omega
        subst this;rw [hei] at hp;cases hp;simp only;omega
     have K14:=bh.2 ⟨P,K13⟩;refine hgo h14 ?_;have K15:aD (pt L (rec .busy none)::cK h8.size::cW Bs kb tb eb a c 78 s (i+1) M.entries::iJ (∀ j p,j<i+1→M.entries[j]? = some p→p.1≤m)::pt b0 (.cells #[.int .i64 m] 2 (0,0))::pt b1 (.cells #[.int .i64 n] 2 (0,0))::(mu fun q:Option Addr×Nat=>cr [pt b2 (.cells #[.slice q.1 (M.entries.take (i+1)).length q.2] 96 (0,0)),aL 98 2 q.1 (M.entries.take (i+1)).length q.2 ((kj (M.entries.take (i+1))).flatMap bV)])::cP b fsb M::co fsb A::F) h14:=K14.ordT 11 [5,6,1,0,7,8,2,9,10];unfold we;rw [htop];exact K15
 · intro h9 K;refine ⟨.inl rfl,fun _=>?_,fun e=>by cases e⟩;obtain ⟨hle,K1⟩:=bh.1 (K.mv 2);have K2:=(K1.mv 1).drop;refine tail (M.entries.take s.length) h9 ?_ K2;refine sh hu hle fun j p hj hp=>?_;have:=(aj.1 hp).1;omega
 · intro j h9 K;obtain ⟨rfl,K1⟩:=bh.1 (K.mv 1);refine ⟨.inr rfl,(fun e=>by cases e),fun _=>?_⟩;exact tail (dW M.entries m) h9 rfl K1
end
end Go.Proofs.YtmemjbiijclbdaaGreat
