/- Files by their places: plain. Raw: the walk. Raw and Put: the walks. Get,Clean: the walks. Ready,Hex: the walks. Hex: what it computes,and that digits stand as numbers do. The chapter's examples; PlaceNil,PlaceSorts. -/
import Derived.Test.YtmemjbiijclbdaaGreatMpFpA
import Derived.Test.YtmemjbiijclbdaaGreatMpCrA
import Derived.Test.YtmemjbiijclbdaaGreatMpTd
namespace Go.Proofs.YtmemjbiijclbdaaGreat
open Go.IntKind (wrap)
open Go.Proofs.Tryz (prog)
open List (mem_of_mem_take take_append_drop getElem?_map getElem?_eq_none map_cons getElem?_of_mem findIdx?_eq_none_iff getElem?_set cons_append take_length take_succ_cons take_zero any_eq_false getElem_mem getElem?_cons_zero map_set length_set)
open Go
set_option linter.unusedVariables false
set_option linter.unusedSimpArgs false
namespace AF
open Frame (dk de)
def fV:ByteArray:=⟨#[116,109,112,46]⟩
def gu:List (FS→FS×Nat)→FS→FS×Nat
 | [],A=>(A,0)
 | g::gs,A=>if (g A).2=0 then gu gs (g A).1 else g A
def fq (dir name:ByteArray) (bs:List Nat):List (FS→FS×Nat):=
 [fun A=>A.create dir (fV++name),fun A=>A.append dir (fV++name) bs,fun A=>A.sync dir (fV++name),fun A=>A.rename dir (fV++name) name,fun A=>A.syncDir dir]
def gS (dir name:ByteArray) (bs:List Nat) (l:List ByteArray):List (FS→FS×Nat):=
 if (l.any fun s=>decide (s=fV++name))=true then (fun A:FS=>A.remove dir (fV++name))::fq dir name bs else fq dir name bs
def FS.raw (A:FS) (dir name:ByteArray) (bs:List Nat):FS×Nat:=
 if 28<name.size then (A,65) else match A.list dir with
  | .error e=>(A,e)
  | .ok l=>gu (gS dir name bs l) A
def FS.put (A:FS) (dir name:ByteArray) (bs:List Nat):FS×Nat:=if 16777208<bs.length then (A,50) else A.raw dir name (dk bs)
def FS.get (A:FS) (dir name:ByteArray):Except Nat (List Nat):=match A.read dir name with
 | .error e=>.error e
 | .ok b=>match de b with
   | some x=>if x.length+8=b.length then .ok x else .error 70
   | none=>.error 70
def kq (s:ByteArray):Bool:=decide (4≤s.size)&&decide ((sb s).take 4=sb fV)
def bW (dir:ByteArray):List ByteArray→FS→Nat→FS×Except Nat Nat
 | [],A,n=>(A,.ok n)
 | s::l,A,n=>if kq s then (if (A.remove dir s).2=0 then bW dir l (A.remove dir s).1 (n+1) else ((A.remove dir s).1,.error (A.remove dir s).2)) else bW dir l A n
def FS.clean (A:FS) (dir:ByteArray):FS×Except Nat Nat:=match A.list dir with
 | .error e=>(A,.error e)
 | .ok l=>match bW dir l A 0 with
   | (B,.error e)=>(B,.error e)
   | (B,.ok n)=>if 0<n then (if (B.syncDir dir).2=0 then ((B.syncDir dir).1,.ok n) else ((B.syncDir dir).1,.error (B.syncDir dir).2)) else (B,.ok n)
def FS.tidy (A:FS) (dir:ByteArray):FS×Except Nat (List ByteArray):=
 match A.clean dir with
 | (B,.error e)=>(B,.error e)
 | (B,.ok _)=>(B,B.list dir)
def FS.prep (A:FS) (dir:ByteArray):FS×Except Nat (List ByteArray):=
 match A.list dir with
 | .error 61=>if (A.mkdir dir).2=0 then (A.mkdir dir).1.tidy dir else ((A.mkdir dir).1,.error (A.mkdir dir).2)
 | _=>A.tidy dir
variable {A:FS}
theorem gB {g:FS→FS} (hg:(g A.stepOn).steps=A.stepOn.steps):(A.step g).1.steps≤A.steps+1:=by
 unfold FS.step
 split
 · exact Nat.le_succ _
 · rw [hg];exact av _
theorem vT (dir:ByteArray):(A.mkdir dir).1.steps≤A.steps+1:=by
 unfold FS.mkdir
 split
 · exact Nat.le_succ _
 · split
   · split
     · exact Nat.le_succ _
     · exact gB rfl
   · exact Nat.le_succ _
theorem uM (dir name:ByteArray):(A.create dir name).1.steps≤A.steps+1:=by
 unfold FS.create
 split
 · exact Nat.le_succ _
 · split
   · exact Nat.le_succ _
   · split
     · exact Nat.le_succ _
     · exact gB rfl
theorem uN (dir name:ByteArray) (b:List Nat):(A.append dir name b).1.steps≤A.steps+1:=by
 unfold FS.append
 split
 · exact Nat.le_succ _
 · split
   · exact Nat.le_succ _
   · split
     · exact Nat.le_succ _
     · exact gB rfl
theorem xk (dir name:ByteArray):(A.sync dir name).1.steps≤A.steps+1:=by
 unfold FS.sync
 split
 · exact Nat.le_succ _
 · exact gB rfl
theorem jV (dir:ByteArray):(A.syncDir dir).1.steps≤A.steps+1:=by
 unfold FS.syncDir
 split
 · exact Nat.le_succ _
 · exact gB rfl
theorem uj (dir a b:ByteArray):(A.rename dir a b).1.steps≤A.steps+1:=by
 unfold FS.rename
 split
 · exact Nat.le_succ _
 · split
   · exact Nat.le_succ _
   · exact gB rfl
theorem kL (dir a:ByteArray):(A.remove dir a).1.steps≤A.steps+1:=by
 unfold FS.remove
 split
 · exact Nat.le_succ _
 · exact gB rfl
end AF
open Go Go.RowKit
section
variable {b:Nat} {A:AF.FS} {F C:List aE} {h:Heap}
theorem Am {s:ByteArray} {ss:List ByteArray} {a:Option Addr} {l c:Nat} (hr:dF h a (ss.map Value.string)) (hl:ss.length=l) (hm:l<4611686018427387904) :
  aC prog 187 [.slice a l c,.string s] h fun v h'=>h'=h∧v=.int .i64 (L0 (ss.findIdx? fun k=>decide (k=s))):=by
 apply Ff.ap
 unfold KP
 refine ⟨fun st hh=>hh=h∧∃ i:Nat,st=(i:Int)∧i≤l∧∀ (j:Nat) (k:ByteArray),j<i→ss[j]? = some k→k≠s,fun st _=>((l:Int) - st).toNat,⟨rfl,0,rfl,au _,fun j k hj=>by omega⟩,?_⟩
 rintro st h1 ⟨rfl,i,rfl,hi,hno⟩
 by_cases hlt:i<l
 · rw [af (show ((i:Int)<(l:Int)) by omega),ab];obtain ⟨k,hk⟩:∃ k,ss[i]? = some k:=⟨_,ah (by omega)⟩
   refine cf (v:=.string k) hr (by rw [an]; omega) (by rw [getElem?_map,hk]; rfl) fun b2 hb hc=>⟨_,hc,?_⟩
   show DS (.string k) _;rw [aW,fZ];by_cases hks:k=s
   · rw [af (by rw [hks]),ab];refine ⟨by trivial,?_⟩;have:ss.findIdx? (fun k=>decide (k=s))=some i:=by
      rw [List.findIdx?_eq_some_iff_getElem];obtain ⟨hil,he⟩:=aj.1 hk;refine ⟨hil,by simp [he,hks],fun j hj=>?_⟩;have:=hno j ss[j] hj (ah (by omega));simpa using this
     rw [this]
     rfl
   · rw [ae (fun e=>hks (iK e.symm)),aa,aK (by omega)];refine ⟨⟨by trivial,i+1,rfl,by omega,fun j k' hj hk'=>?_⟩,by show ((l:Int) - ((i+1:Nat):Int)).toNat<((l:Int) - (i:Int)).toNat; omega⟩;by_cases hji:j=i
     · subst hji;rw [hk] at hk';cases hk';exact hks
     · exact hno j k' (by omega) hk'
 · rw [ae (by omega),aa];refine ⟨by trivial,?_⟩;have:ss.findIdx? (fun k=>decide (k=s))=none:=by
    rw [findIdx?_eq_none_iff];intro k hk;obtain ⟨j,hj⟩:=getElem?_of_mem hk;have:=hno j k (by have:=(aj.1 hj).1; omega) hj;simpa using this
   rw [this]
   rfl
theorem Az {s:ByteArray} {ss:List ByteArray} {a:Option Addr} {l c:Nat} (hr:dF h a (ss.map Value.string)) (hl:ss.length=l) (hm:l<4611686018427387904) :
  aC prog 160 [.slice a l c,.string s] h fun v h'=>h'=h∧v=.bool (ss.any fun k=>decide (k=s)):=by
 apply Fw.ap
 unfold Lb
 refine (Am hr hl hm).mono ?_
 rintro v h1 ⟨rfl,rfl⟩
 rw [aJ]
 refine ⟨by trivial,?_⟩
 cases hf:ss.findIdx? (fun k=>decide (k=s)) with
 | none=>
   rw [findIdx?_eq_none_iff] at hf;have:(ss.any fun k=>decide (k=s))=false:=by
    rw [any_eq_false];intro k hk;simpa using hf k hk
   rw [this]
   rfl
 | some i=>
   rw [List.findIdx?_eq_some_iff_getElem] at hf;obtain ⟨hi,he,_⟩:=hf;have:(ss.any fun k=>decide (k=s))=true:=List.any_eq_true.2 ⟨ss[i],getElem_mem hi,he⟩;rw [this];show Value.bool (decide ((i:Int)≥0))=_;rw [af (by omega)]
def yn (b:Nat) (C:List aE) (v:Value) (g:AF.FS→AF.FS×Nat):Prop:=
 ∀ (A:AF.FS) (h:Heap),A.WF→A.steps<1099511627776→aD (co b A::C) h→cB prog v [] h fun r h'=>r=.int .i64 ((g A).2:Int)∧(g A).1.WF∧(g A).1.steps≤A.steps+1∧aD (co b (g A).1::C) h'
theorem zq {gs:List (AF.FS→AF.FS×Nat)}:∀ {i:Nat} {A B:AF.FS} {g:AF.FS→AF.FS×Nat},AF.gu (gs.take i) A=(B,0)→gs[i]? = some g→AF.gu (gs.take (i+1)) A=g B:=by
 induction gs with
 | nil=>intro i A B g _ h; simp at h
 | cons g0 gs ih=>
   intro i A B g h1 h2
   cases i with
   | zero=>
     simp only [getElem?_cons_zero,Option.some.injEq] at h2;subst h2;simp only [take_zero,AF.gu,Prod.mk.injEq,and_true] at h1;subst h1;simp only [take_succ_cons,take_zero,AF.gu];split
     · rename_i e;exact Prod.ext rfl e.symm
     · rfl
   | succ i=>
     simp only [take_succ_cons,AF.gu] at h1 ⊢;split at h1
     · rename_i e;rw [al e];exact ih h1 (by simpa using h2)
     · rename_i e;rw [h1] at e;exact absurd rfl e
theorem zr {gs:List (AF.FS→AF.FS×Nat)}:∀ {i:Nat} {A:AF.FS},(AF.gu (gs.take i) A).2≠0→AF.gu gs A=AF.gu (gs.take i) A:=by
 induction gs with
 | nil=>intro i A h; simp
 | cons g0 gs ih=>
   intro i A h
   cases i with
   | zero=>exact absurd rfl h
   | succ i=>
     simp only [take_succ_cons,AF.gu] at h ⊢;split
     · rename_i e;rw [al e] at h;exact ih h
     · rfl
theorem qp {cl:List Value} {gs:List (AF.FS→AF.FS×Nat)} {a:Option Addr} {n:Nat} {Q:Value→Heap→Prop} (hn:cl.length=n) (hg:gs.length=n) (hm:n<1000) (hd:∀ (j:Nat) (v:Value) (g:AF.FS→AF.FS×Nat),cl[j]? = some v→gs[j]? = some g→yn b C v g)
  (hr:∀ h',aD C h'→dF h' a cl) (W:A.WF) (hs:A.steps+n<1099511627776) (H:aD (co b A::C) h)
  (hQ:∀ h',(AF.gu gs A).1.WF→(AF.gu gs A).1.steps≤A.steps+n→aD (co b (AF.gu gs A).1::C) h'→Q (.int .i64 ((AF.gu gs A).2:Int)) h') :
  aZ (fun again0 (s0:Int) h_12=>
   (bif decide ((s0:Int)<(n:Int)) then
    aR a n s0 1 fun a0=>
    Ld h_12 a0 fun v6=>∃ (s1:Value),v6=s1∧
    cB prog s1 [] h_12 fun r11 h_13=>
    DI .i64 r11 fun e0=>
    (bif (e0:Int)!=0 then
     Q (.int .i64 e0) h_13
    else
     again0 (wrap .i64 (s0+1)) h_13)
   else
    Q (.int .i64 0) h_12)) 0 h:=by
 refine ⟨fun st hh=>∃ (i:Nat) (B:AF.FS),st=(i:Int)∧i≤n∧AF.gu (gs.take i) A=(B,0)∧B.WF∧B.steps≤A.steps+i∧aD (co b B::C) hh,fun st _=>((n:Int) - st).toNat,⟨0,A,rfl,au _,rfl,W,av _,H⟩,?_⟩
 rintro st h1 ⟨i,B,rfl,hi,hB,WB,hBs,H1⟩
 by_cases hlt:i<n
 · rw [af (show ((i:Int)<(n:Int)) by omega),ab];obtain ⟨v,hv⟩:∃ v,cl[i]? = some v:=⟨_,ah (by omega)⟩
   obtain ⟨g,hgi⟩:∃ g,gs[i]? = some g:=⟨_,ah (by omega)⟩
   refine cf (v:=v) (hr h1 H1.drop) hn hv fun ba hba hc=>⟨_,hc,v,rfl,?_⟩
   refine (hd i v g hv hgi B h1 WB (by omega) H1).mono ?_;rintro r h2 ⟨rfl,W2,hs2,H2⟩;rw [aJ];have ht:=zq hB hgi;by_cases he:(g B).2=0
   · rw [he,show (((0:Nat):Int)!=0)=false from rfl,aa,aK (by omega)];refine ⟨⟨i+1,(g B).1,rfl,by omega,by rw [ht]; exact Prod.ext rfl he,W2,by omega,H2⟩,by show ((n:Int) - ((i+1:Nat):Int)).toNat<((n:Int) - (i:Int)).toNat; omega⟩
   · rw [bo he,ab];have hf:=zr (gs:=gs) (i:=i+1) (A:=A) (by rw [ht]; exact he);rw [ht] at hf;have:=hQ h2;rw [hf] at this;exact this W2 (by omega) H2
 · rw [ae (by omega),aa];have ei:i=n:=by omega
   subst ei;rw [ar (by omega)] at hB;have:=hQ h1;rw [hB] at this;exact this WB hBs H1
end
theorem LO:prog.underlying 230=some (.slice 196):=by kernel_rfl
theorem GJ:fS prog 230=true:=by kernel_rfl
theorem JY:ig prog 196 8=true:=by kernel_rfl
section
variable {b b1 b2 b3 b4 b5:Nat} {A:AF.FS} {F C:List aE} {h:Heap} {dir name t:ByteArray} {ba:Option Addr} {bl bc:Nat} {bs:List Nat}
theorem Cj (r1:∀ h',aD C h'→h'[b1]? = some (.cells #[aI b] 23 (0,0))) (r2:∀ h',aD C h'→h'[b2]? = some (.cells #[.string dir] 9 (0,0))) (r5:∀ h',aD C h'→h'[b5]? = some (.cells #[.string t] 9 (0,0)))
  (hd:dir.size<4611686018427387904) (ht:t.size<4611686018427387904):yn b C (.func (.func 155) #[] #[aI b1,aI b2,aI b5]) fun A=>A.create dir t:=by
 intro A h W hs H
 refine fO ?_
 refine FC (c0:=⟨b1,0,none⟩) (c1:=⟨b2,0,none⟩) (c2:=⟨b5,0,none⟩) ?_
 unfold I4
 refine pU (r1 h H.drop) ?_
 show DP (.pointer (some ⟨b,0,none⟩)) _
 rw [bD]
 refine pU (r2 h H.drop) ?_
 rw [aW]
 refine pU (r5 h H.drop) ?_
 rw [aW]
 refine (rG W hs hd ht H).mono ?_
 rintro v h1 ⟨rfl,H1⟩
 rw [aJ]
 exact ⟨rfl,W.create dir t,AF.uM dir t,H1⟩
theorem Ci (r1:∀ h',aD C h'→h'[b1]? = some (.cells #[aI b] 23 (0,0))) (r2:∀ h',aD C h'→h'[b2]? = some (.cells #[.string dir] 9 (0,0))) (r5:∀ h',aD C h'→h'[b5]? = some (.cells #[.string t] 9 (0,0)))
  (r4:∀ h',aD C h'→h'[b4]? = some (.cells #[.slice ba bl bc] 31 (0,0))) (hr:∀ h',aD C h'→dF h' ba (bs.map nv)) (h8:B8 bs) (hl:bs.length=bl) (hlb:bl<4611686018427387904)
  (hd:dir.size<4611686018427387904) (ht:t.size<4611686018427387904):yn b C (.func (.func 156) #[] #[aI b1,aI b2,aI b5,aI b4]) fun A=>A.append dir t bs:=by
 intro A h W hs H
 refine fO ?_
 refine FB (c0:=⟨b1,0,none⟩) (c1:=⟨b2,0,none⟩) (c2:=⟨b5,0,none⟩) (c3:=⟨b4,0,none⟩) ?_
 unfold I3
 refine pU (r1 h H.drop) ?_
 show DP (.pointer (some ⟨b,0,none⟩)) _
 rw [bD]
 refine pU (r2 h H.drop) ?_
 rw [aW]
 refine pU (r5 h H.drop) ?_
 rw [aW]
 refine pU (r4 h H.drop) ?_
 rw [aF]
 refine (rF W hs hd ht hr hl hlb H).mono ?_
 rintro v h1 ⟨rfl,H1⟩
 rw [aJ]
 exact ⟨rfl,W.append dir t h8,AF.uN dir t bs,H1⟩
theorem Ch (r1:∀ h',aD C h'→h'[b1]? = some (.cells #[aI b] 23 (0,0))) (r2:∀ h',aD C h'→h'[b2]? = some (.cells #[.string dir] 9 (0,0))) (r5:∀ h',aD C h'→h'[b5]? = some (.cells #[.string t] 9 (0,0)))
  (hd:dir.size<4611686018427387904) (ht:t.size<4611686018427387904):yn b C (.func (.func 157) #[] #[aI b1,aI b2,aI b5]) fun A=>A.sync dir t:=by
 intro A h W hs H
 refine fO ?_
 refine Fz (c0:=⟨b1,0,none⟩) (c1:=⟨b2,0,none⟩) (c2:=⟨b5,0,none⟩) ?_
 unfold I1
 refine pU (r1 h H.drop) ?_
 show DP (.pointer (some ⟨b,0,none⟩)) _
 rw [bD]
 refine pU (r2 h H.drop) ?_
 rw [aW]
 refine pU (r5 h H.drop) ?_
 rw [aW]
 refine (rE W hs hd ht H).mono ?_
 rintro v h1 ⟨rfl,H1⟩
 rw [aJ]
 exact ⟨rfl,W.sync dir t,AF.xk dir t,H1⟩
theorem Cg (r1:∀ h',aD C h'→h'[b1]? = some (.cells #[aI b] 23 (0,0))) (r2:∀ h',aD C h'→h'[b2]? = some (.cells #[.string dir] 9 (0,0))) (r5:∀ h',aD C h'→h'[b5]? = some (.cells #[.string t] 9 (0,0)))
  (r3:∀ h',aD C h'→h'[b3]? = some (.cells #[.string name] 9 (0,0))) (hd:dir.size<4611686018427387904) (ht:t.size<4611686018427387904) (hn:name.size<4611686018427387904) :
  yn b C (.func (.func 158) #[] #[aI b1,aI b2,aI b5,aI b3]) fun A=>A.rename dir t name:=by
 intro A h W hs H
 refine fO ?_
 refine Fy (c0:=⟨b1,0,none⟩) (c1:=⟨b2,0,none⟩) (c2:=⟨b5,0,none⟩) (c3:=⟨b3,0,none⟩) ?_
 unfold IZ
 refine pU (r1 h H.drop) ?_
 show DP (.pointer (some ⟨b,0,none⟩)) _
 rw [bD]
 refine pU (r2 h H.drop) ?_
 rw [aW]
 refine pU (r5 h H.drop) ?_
 rw [aW]
 refine pU (r3 h H.drop) ?_
 rw [aW]
 refine (rD W hs hd ht hn H).mono ?_
 rintro v h1 ⟨rfl,H1⟩
 rw [aJ]
 exact ⟨rfl,W.rename dir t name,AF.uj dir t name,H1⟩
theorem Cf (r1:∀ h',aD C h'→h'[b1]? = some (.cells #[aI b] 23 (0,0))) (r2:∀ h',aD C h'→h'[b2]? = some (.cells #[.string dir] 9 (0,0)))
  (hd:dir.size<4611686018427387904):yn b C (.func (.func 159) #[] #[aI b1,aI b2]) fun A=>A.syncDir dir:=by
 intro A h W hs H
 refine fO ?_
 refine Fx (c0:=⟨b1,0,none⟩) (c1:=⟨b2,0,none⟩) ?_
 unfold IY
 refine pU (r1 h H.drop) ?_
 show DP (.pointer (some ⟨b,0,none⟩)) _
 rw [bD]
 refine pU (r2 h H.drop) ?_
 rw [aW]
 refine (l7 W hs hd H).mono ?_
 rintro v h1 ⟨rfl,H1⟩
 rw [aJ]
 exact ⟨rfl,W.syncDir dir,AF.jV dir,H1⟩
theorem Hi (r1:∀ h',aD C h'→h'[b1]? = some (.cells #[aI b] 23 (0,0))) (r2:∀ h',aD C h'→h'[b2]? = some (.cells #[.string dir] 9 (0,0))) (r5:∀ h',aD C h'→h'[b5]? = some (.cells #[.string t] 9 (0,0)))
  (hd:dir.size<4611686018427387904) (ht:t.size<4611686018427387904):yn b C (.func (.func 161) #[] #[aI b1,aI b2,aI b5]) fun A=>A.remove dir t:=by
 intro A h W hs H
 refine fO ?_
 refine Fv (c0:=⟨b1,0,none⟩) (c1:=⟨b2,0,none⟩) (c2:=⟨b5,0,none⟩) ?_
 unfold IW
 refine pU (r1 h H.drop) ?_
 show DP (.pointer (some ⟨b,0,none⟩)) _
 rw [bD]
 refine pU (r2 h H.drop) ?_
 rw [aW]
 refine pU (r5 h H.drop) ?_
 rw [aW]
 refine (l5 W hs hd ht H).mono ?_
 rintro v h1 ⟨rfl,H1⟩
 rw [aJ]
 exact ⟨rfl,W.remove dir t,AF.kL dir t,H1⟩
theorem Bi (name:ByteArray):(AF.fV++name).size=4+name.size:=by rw [ByteArray.size_append]; rfl
abbrev Ki (b:Nat) (A:AF.FS) (k:Nat) (r:AF.FS×Nat) (F:List aE):Value→Heap→Prop:=fun v h'=>v=.int .i64 (r.2:Int)∧r.1.WF∧r.1.steps≤A.steps+k∧aD (co b r.1::F) h'
theorem AW (W:A.WF) (hs:A.steps+10<1099511627776) (hd:dir.size<4611686018427387904) (hn:name.size<4611686018427387904)
  (hr:∀ h',aD F h'→dF h' ba (bs.map nv)) (h8:B8 bs) (hl:bs.length=bl) (hlb:bl<4611686018427387904) (H:aD (co b A::F) h) :
  aC prog 102 [aI b,.string dir,.string name,.slice ba bl bc] h (Ki b A 6 (A.raw dir name bs) F):=by
 apply Gc.ap
 unfold LE
 refine aQ H fun b1 h1 H1=>aQ H1 fun b2 h2 H2=>aQ H2 fun b3 h3 H3=>aQ H3 fun b4 h4 H4=>?_
 refine gJ (v:=aI b) (H4.mv 3).get rfl ?_
 show DP (.pointer (some ⟨b,0,none⟩)) _
 rw [bD,show (some (⟨b,0,none⟩:Addr)).isNone=false from rfl,aa]
 refine gJ (v:=.string name) (H4.mv 1).get rfl ?_
 rw [aW]
 by_cases hbig:28<name.size
 · rw [af (by omega),ab];have e:A.raw dir name bs=(A,65):=by unfold AF.FS.raw; rw [al hbig]
   rw [e];exact ⟨rfl,W,Nat.le_add_right _ _,H4.rest 4⟩
 rw [ae (by omega),aa]
 refine gJ (v:=.string name) (H4.mv 1).get rfl ?_
 rw [aW]
 refine ⟨by show 4+name.size≤_; omega,?_⟩
 refine aQ H4 fun b5 h5 H5=>?_
 rw [aV]
 refine ud H5 fun h6 H6=>?_
 have hts:=Bi name
 refine gJ (v:=aI b) (H6.mv 4).get rfl ?_
 show DP (.pointer (some ⟨b,0,none⟩)) _
 rw [bD]
 refine gJ (v:=.string dir) (H6.mv 3).get rfl ?_
 rw [aW]
 refine (lZ W hd (H6.ordT 6 [5,0,1,2,3,4])).mono ?_
 rintro v h7 (⟨ks,ka,kc,hli,_,hkl,rfl,H7⟩ | ⟨e,hli,e0,rfl,H7⟩)
 · refine ⟨ka,ks.length,kc,0,rfl,?_⟩;rw [show ((0:Int)!=0)=false from rfl,aa];refine aQ H7 fun b6 h8' H8=>?_;refine gJ (v:=.string (AF.fV++name)) (H8.mv 3).get rfl ?_;rw [aW];refine (Az (aH (H8.mv 1)) rfl (by omega)).mono ?_;rintro v h9 ⟨rfl,rfl⟩;rw [cd];have eraw:A.raw dir name bs=AF.gu (AF.gS dir name bs ks) A:=by unfold AF.FS.raw; rw [ak hbig,hli]
   rw [eraw]
   cases hc:ks.any fun k=>decide (k=AF.fV++name) with
   | false=>
     rw [aa];have eall:AF.gS dir name bs ks=AF.fq dir name bs:=by unfold AF.gS; rw [hc,ak (by decide)]
     rw [eall];have G0:=H8.ordT 8 [2,0,3,4,5,6,7];refine qp (b:=b) (A:=A) (C:=pt b6 (.cells #[.func (.func 155) #[] #[aI b1,aI b2,aI b5],.func (.func 156) #[] #[aI b1,aI b2,aI b5,aI b4],.func (.func 157) #[] #[aI b1,aI b2,aI b5],.func (.func 158) #[] #[aI b1,aI b2,aI b5,aI b3],.func (.func 159) #[] #[aI b1,aI b2]] 196 (0,0))::pt b5 (.cells #[.string (AF.fV++name)] 9 (0,0))::pt b4 (.cells #[.slice ba bl bc] 31 (0,0))::pt b3 (.cells #[.string name] 9 (0,0))::pt b2 (.cells #[.string dir] 9 (0,0))::pt b1 (.cells #[aI b] 23 (0,0))::F)
      (cl:=[.func (.func 155) #[] #[aI b1,aI b2,aI b5],.func (.func 156) #[] #[aI b1,aI b2,aI b5,aI b4],.func (.func 157) #[] #[aI b1,aI b2,aI b5],.func (.func 158) #[] #[aI b1,aI b2,aI b5,aI b3],.func (.func 159) #[] #[aI b1,aI b2]])
      (gs:=AF.fq dir name bs) (n:=5) rfl rfl (by omega) ?_ (fun h' hh=>ln hh rfl) W (by omega) G0 ?_
     · intro j v g hv hg;have hj:j<5:=(aj.1 hv).1
       match j,hj with
       | 0,_=>cases hv; cases hg; exact Cj (fun h' hh=>(hh.mv 5).get) (fun h' hh=>(hh.mv 4).get) (fun h' hh=>(hh.mv 1).get) hd (by omega)
       | 1,_=>cases hv; cases hg; exact Ci (fun h' hh=>(hh.mv 5).get) (fun h' hh=>(hh.mv 4).get) (fun h' hh=>(hh.mv 1).get) (fun h' hh=>(hh.mv 2).get) (fun h' hh=>hr h' (hh.rest 6)) h8 hl hlb hd (by omega)
       | 2,_=>cases hv; cases hg; exact Ch (fun h' hh=>(hh.mv 5).get) (fun h' hh=>(hh.mv 4).get) (fun h' hh=>(hh.mv 1).get) hd (by omega)
       | 3,_=>cases hv; cases hg; exact Cg (fun h' hh=>(hh.mv 5).get) (fun h' hh=>(hh.mv 4).get) (fun h' hh=>(hh.mv 1).get) (fun h' hh=>(hh.mv 3).get) hd (by omega) hn
       | 4,_=>cases hv; cases hg; exact Cf (fun h' hh=>(hh.mv 5).get) (fun h' hh=>(hh.mv 4).get) hd
     · intro h' W' hs' H';exact ⟨rfl,W',by omega,H'.ordT 7 [0]⟩
   | true=>
     rw [ab];have eall:AF.gS dir name bs ks=(fun A:AF.FS=>A.remove dir (AF.fV++name))::AF.fq dir name bs:=by unfold AF.gS; rw [hc,al rfl]
     rw [eall];refine aQ H8 fun b7 h10 H10=>?_;have K1:aD (aL 196 1 (some ⟨b7,0,none⟩) 1 1 [.func (.func 161) #[] #[aI b1,aI b2,aI b5]]::_) h10:=fB H10 (bO _) (av _) (by decide) rfl rfl;refine jS (b:=8) (ys:=[.func (.func 155) #[] #[aI b1,aI b2,aI b5],.func (.func 156) #[] #[aI b1,aI b2,aI b5,aI b4],.func (.func 157) #[] #[aI b1,aI b2,aI b5],.func (.func 158) #[] #[aI b1,aI b2,aI b5,aI b3],.func (.func 159) #[] #[aI b1,aI b2]])
      LO GJ JY K1 (ce (n:=5) (c:=5) (ln (H10.mv 1) rfl) rfl) (by intro u hu; simp at hu; rcases hu with rfl | rfl | rfl | rfl | rfl <;> rfl) (by omega) fun sa sc h11 _ H11=>?_
     rw [aF];have G0:=H11.ordT 9 [3,0,4,5,6,7,8];refine qp (b:=b) (A:=A) (C:=aL 196 1 sa (1+5) sc [.func (.func 161) #[] #[aI b1,aI b2,aI b5],.func (.func 155) #[] #[aI b1,aI b2,aI b5],.func (.func 156) #[] #[aI b1,aI b2,aI b5,aI b4],.func (.func 157) #[] #[aI b1,aI b2,aI b5],.func (.func 158) #[] #[aI b1,aI b2,aI b5,aI b3],.func (.func 159) #[] #[aI b1,aI b2]]::
      pt b5 (.cells #[.string (AF.fV++name)] 9 (0,0))::pt b4 (.cells #[.slice ba bl bc] 31 (0,0))::pt b3 (.cells #[.string name] 9 (0,0))::pt b2 (.cells #[.string dir] 9 (0,0))::pt b1 (.cells #[aI b] 23 (0,0))::F)
      (cl:=[.func (.func 161) #[] #[aI b1,aI b2,aI b5],.func (.func 155) #[] #[aI b1,aI b2,aI b5],.func (.func 156) #[] #[aI b1,aI b2,aI b5,aI b4],.func (.func 157) #[] #[aI b1,aI b2,aI b5],.func (.func 158) #[] #[aI b1,aI b2,aI b5,aI b3],.func (.func 159) #[] #[aI b1,aI b2]])
      (gs:=(fun A:AF.FS=>A.remove dir (AF.fV++name))::AF.fq dir name bs) (n:=1+5) rfl rfl (by omega) ?_ (fun h' hh=>aH hh) W (by omega) G0 ?_
     · intro j v g hv hg;have hj:j<6:=(aj.1 hv).1
       match j,hj with
       | 0,_=>cases hv; cases hg; exact Hi (fun h' hh=>(hh.mv 5).get) (fun h' hh=>(hh.mv 4).get) (fun h' hh=>(hh.mv 1).get) hd (by omega)
       | 1,_=>cases hv; cases hg; exact Cj (fun h' hh=>(hh.mv 5).get) (fun h' hh=>(hh.mv 4).get) (fun h' hh=>(hh.mv 1).get) hd (by omega)
       | 2,_=>cases hv; cases hg; exact Ci (fun h' hh=>(hh.mv 5).get) (fun h' hh=>(hh.mv 4).get) (fun h' hh=>(hh.mv 1).get) (fun h' hh=>(hh.mv 2).get) (fun h' hh=>hr h' (hh.rest 6)) h8 hl hlb hd (by omega)
       | 3,_=>cases hv; cases hg; exact Ch (fun h' hh=>(hh.mv 5).get) (fun h' hh=>(hh.mv 4).get) (fun h' hh=>(hh.mv 1).get) hd (by omega)
       | 4,_=>cases hv; cases hg; exact Cg (fun h' hh=>(hh.mv 5).get) (fun h' hh=>(hh.mv 4).get) (fun h' hh=>(hh.mv 1).get) (fun h' hh=>(hh.mv 3).get) hd (by omega) hn
       | 5,_=>cases hv; cases hg; exact Cf (fun h' hh=>(hh.mv 5).get) (fun h' hh=>(hh.mv 4).get) hd
     · intro h' W' hs' H';exact ⟨rfl,W',by omega,H'.ordT 7 [0]⟩
 · refine ⟨none,0,0,(e:Int),rfl,?_⟩;rw [bo e0,ab];have er:A.raw dir name bs=(A,e):=by unfold AF.FS.raw; rw [ak hbig,hli]
   rw [er];exact ⟨rfl,W,Nat.le_add_right _ _,H7.ordT 6 [0]⟩
theorem AY {a:Option Addr} {l c:Nat} (hl:16777208<l):aC prog 101 [.slice a l c] h fun v h'=>v=.tuple #[.slice none 0 0,.int .i64 50]∧h'=h:=by
 apply zf.ap
 unfold Jg
 rw [af (show ((l:Int)>16777208) by omega),ab]
 exact ⟨rfl,rfl⟩
theorem wV (W:A.WF) (hs:A.steps+10<1099511627776) (hd:dir.size<4611686018427387904) (hn:name.size<4611686018427387904)
  (hr:∀ h',aD F h'→dF h' ba (bs.map nv)) (h8:B8 bs) (hl:bs.length=bl) (hlb:bl<4611686018427387904) (H:aD (co b A::F) h) :
  aC prog 40 [aI b,.string dir,.string name,.slice ba bl bc] h (Ki b A 6 (A.put dir name bs) F):=by
 apply Iu.ap
 unfold MZ
 rw [show (some (⟨b,0,none⟩:Addr)).isNone=false from rfl,aa]
 by_cases hbig:16777208<bs.length
 · refine (AY (by omega)).mono ?_;rintro v h1 ⟨rfl,rfl⟩;refine ⟨none,0,0,50,rfl,?_⟩;rw [show ((50:Int)!=0)=true from rfl,ab];have e:A.put dir name bs=(A,50):=by unfold AF.FS.put; rw [al hbig]
   rw [e];exact ⟨rfl,W,Nat.le_add_right _ _,H⟩
 · refine (AX (F:=co b A::F) H (fun h' hh=>hr h' hh.drop) h8 hl (by omega)).mono ?_;rintro v h1 ⟨pa,pc,rfl,H1⟩;refine ⟨some pa,8+bl,pc,0,rfl,?_⟩;rw [show ((0:Int)!=0)=false from rfl,aa];refine (AW (bs:=Frame.dk bs) W hs hd hn (fun h' hh=>aH hh) (Frame.iz h8) (by rw [Frame.eW,hl]) (by omega) (H1.mv 1)).mono ?_;rintro v h2 ⟨rfl,W2,hs2,H2⟩;rw [aJ];have e:A.put dir name bs=A.raw dir name (Frame.dk bs):=by unfold AF.FS.put; rw [ak hbig]
   rw [e];exact ⟨rfl,W2,hs2,(H2.mv 1).drop⟩
end
section
variable {b:Nat} {A:AF.FS} {F C:List aE} {h:Heap} {dir name:ByteArray}
theorem wX (W:A.WF) (hd:dir.size<4611686018427387904) (hn:name.size<4611686018427387904) (H:aD (co b A::F) h) :
  aC prog 34 [aI b,.string dir,.string name] h fun v h'=>
   (∃ (bs:List Nat) (a:Option Addr) (c:Nat),A.get dir name=.ok bs∧B8 bs∧bs.length≤16777216∧v=.tuple #[.slice a bs.length c,.int .i64 0]∧aD (aL 5 1 a bs.length c (bs.map nv)::co b A::F) h')∨
   (∃ e:Nat,A.get dir name=.error e∧e≠0∧v=.tuple #[.slice none 0 0,.int .i64 (e:Int)]∧aD (co b A::F) h'):=by
 apply IA.ap
 unfold M9
 refine (wG W hd hn H).mono ?_
 rintro v h1 (⟨bs,a,c,hr,hb8,hbl,rfl,H1⟩ | ⟨e,hr,e0,rfl,H1⟩)
 · refine ⟨a,bs.length,c,0,rfl,?_⟩;rw [show ((0:Int)!=0)=false from rfl,aa];obtain ⟨_,hlc,hcm⟩:=fK H1;refine (CA H1 (aH H1) hb8 rfl hlc hcm (by omega)).mono ?_;rintro v h2 ⟨a2,l2,c2,e,rfl,hcase⟩;refine ⟨a2,l2,c2,e,rfl,?_⟩
   rcases hcase with ⟨body,hf,hbl2,rfl,rfl,H2⟩ | ⟨hno,rfl,rfl,H2⟩
   · rw [show ((0:Int)!=0)=false from rfl,aa];refine .inl ⟨body,a2,c2,?_,?_,by omega,rfl,(H2.mv 1).drop⟩
     · unfold AF.FS.get;rw [hr];simp only [hf,al hbl2]
     · obtain ⟨_,_,_,hx,_⟩:=Frame.jM hb8 hf;intro n hn;rw [hx] at hn;exact hb8 n (List.mem_of_mem_drop (mem_of_mem_take hn))
   · rw [show ((52:Int)!=0)=true from rfl,ab];refine .inr ⟨70,?_,by decide,rfl,H2.rest 2⟩;unfold AF.FS.get;rw [hr]
     cases hf:Frame.de bs with
     | none=>simp only [hf]
     | some x=>simp only [hf,ak (hno x hf)]
 · refine ⟨none,0,0,(e:Int),rfl,?_⟩;rw [bo e0,ab];refine .inr ⟨e,?_,e0,rfl,H1⟩;unfold AF.FS.get;rw [hr]
theorem Ap {s:ByteArray}:aC prog 179 [.string s,.string ⟨#[116,109,112,46]⟩] h fun v h'=>v=.bool (AF.kq s)∧h'=h:=by
 apply Fi.ap
 unfold KS
 have in141:aC prog 200 [.string s,.string ⟨#[116,109,112,46]⟩] h fun v h'=>v=.bool (AF.kq s)∧h'=h:=by
  apply Fd.ap;unfold KN;have e4:(⟨#[116,109,112,46]⟩:ByteArray).size=4:=rfl;rw [e4];by_cases h4:4≤s.size
  · rw [af (by omega),ab];refine ⟨by omega,by omega,by omega,?_⟩;refine ⟨congrArg Value.bool ?_,rfl⟩;unfold AF.kq;rw [af h4,Bool.true_and,fZ,ff]
    rfl
  · rw [ae (by omega),aa];refine ⟨congrArg Value.bool ?_,rfl⟩;unfold AF.kq;rw [ae h4,Bool.false_and]
 refine in141.mono ?_
 rintro v h1 ⟨rfl,rfl⟩
 rw [cd]
 exact ⟨rfl,rfl⟩
theorem Aq {yv:Value} {cb l c:Nat} {a:Option Addr} {ss:List ByteArray} (J:Nat→Heap→Prop) (Out:Heap→Prop) (hl:ss.length=l) (hm:l<4611686018427387904)
  (hcell:∀ i h2,J i h2→h2[cb]? = some (.cells #[.slice a l c] 74 (0,0))∧dF h2 a (ss.map Value.string)) (start:J 0 h)
  (skip:∀ i s h2,ss[i]? = some s→AF.kq s=false→J i h2→J (i+1) h2)
  (round:∀ i s h2,ss[i]? = some s→AF.kq s=true→J i h2→cB prog yv [.string s] h2 fun r h3=>∃ go,r=.bool go∧(go=true→J (i+1) h3)∧(go=false→Out h3))
  (fin:∀ h2,J l h2→Out h2):aC prog 178 [yv,aI cb] h fun v h'=>v=.tuple #[]∧Out h':=by
 refine Fj (c0:=⟨cb,0,none⟩) ?_
 unfold IR
 refine pU (hcell 0 h start).1 ?_
 rw [aF]
 refine ⟨fun st hh=>∃ i:Nat,st=(i:Int)∧i≤l∧J i hh,fun st _=>((l:Int) - st).toNat,⟨0,rfl,au _,start⟩,?_⟩
 rintro st h1 ⟨i,rfl,hi,HJ⟩
 by_cases hlt:i<l
 · rw [af (show ((i:Int)<(l:Int)) by omega),ab];obtain ⟨s,hs⟩:∃ s,ss[i]? = some s:=⟨_,ah (by omega)⟩
   refine cf (v:=.string s) (hcell i h1 HJ).2 (by rw [an]; exact hl) (by rw [getElem?_map,hs]; rfl) fun ba hba hc=>⟨_,hc,?_⟩
   show DS (.string s) _;rw [aW];refine Ap.mono ?_;rintro v h2 ⟨rfl,rfl⟩;rw [cd];have on:∀ hx,J (i+1) hx→(∃ i_1:Nat,wrap .i64 ((i:Int)+1)=(i_1:Int)∧i_1≤l∧J i_1 hx)∧((l:Int) - wrap .i64 ((i:Int)+1)).toNat<((l:Int) - (i:Int)).toNat:=by
    intro hx hj;rw [aK (by omega)];exact ⟨⟨i+1,rfl,by omega,hj⟩,by omega⟩
   cases ht:AF.kq s with
   | false=>
     rw [aa];exact on h2 (skip i s h2 hs ht HJ)
   | true=>
     rw [ab];refine (round i s h2 hs ht HJ).mono ?_;rintro r h3 ⟨go,rfl,hgo,hstop⟩;rw [cd]
     cases go with
     | false=>exact ⟨rfl,hstop rfl⟩
     | true=>exact on h3 (hgo rfl)
 · rw [ae (by omega),aa];have ei:i=l:=by omega
   subst ei;exact ⟨rfl,fin h1 HJ⟩
end
namespace AF
theorem eG (dir:ByteArray):∀ (l1 l2:List ByteArray) (A:FS) (n:Nat),bW dir (l1++l2) A n=match bW dir l1 A n with
  | (B,.ok m)=>bW dir l2 B m
  | (B,.error e)=>(B,.error e)
 | [],l2,A,n=>rfl
 | s::l1,l2,A,n=>by
   simp only [cons_append,bW];split
   · split
     · exact eG dir l1 l2 _ _
     · rfl
   · exact eG dir l1 l2 _ _
end AF
section
variable {b:Nat} {A:AF.FS} {F C:List aE} {h:Heap} {dir name:ByteArray}
def Cm:Except Nat Nat→Value
 | .ok n=>.tuple #[.int .i64 (n:Int),.int .i64 0]
 | .error e=>.tuple #[.int .i64 0,.int .i64 (e:Int)]
abbrev Ho (b:Nat) (n:Int):aE:=pt b (.cells #[.int .i64 n] 3 (0,0))
abbrev EG (b:Nat) (n:Int):aE:=pt b (.cells #[.int .i64 n] 24 (0,0))
theorem CB (W:A.WF) (hs:A.steps+10000<1099511627776) (hd:dir.size<4611686018427387904) (H:aD (co b A::F) h) :
  aC prog 94 [aI b,.string dir] h fun v h'=>v=Cm (A.clean dir).2∧(∀ e,(A.clean dir).2=.error e→e≠0)∧(A.clean dir).1.WF∧(A.clean dir).1.steps≤A.steps+5000∧aD (co b (A.clean dir).1::F) h':=by
 apply Hz.ap
 unfold Mq
 refine aQ H fun b0 h1 H1=>aQ H1 fun b1 h2 H2=>aQ H2 fun b2 h3 H3=>aQ H3 fun b3 h4 H4=>?_
 refine gJ (v:=aI b) (H4.mv 3).get rfl ?_
 show DP (.pointer (some ⟨b,0,none⟩)) _
 rw [bD]
 refine gJ (v:=.string dir) (H4.mv 2).get rfl ?_
 rw [aW]
 refine (lZ W hd (H4.mv 4)).mono ?_
 rintro v h5 (⟨ks,ka,kc,hli,hright,hkl,rfl,H5⟩ | ⟨e,hli,e0,rfl,H5⟩)
 · refine ⟨ka,ks.length,kc,0,rfl,?_⟩;rw [show ((0:Int)!=0)=false from rfl,aa];refine aQ H5 fun b4 h6 H6=>?_;rw [aV];refine ud (v:=.int .i64 0) H6 fun h7 H7=>?_;have in89:aC prog 141 [.slice ka ks.length kc] h7 fun v h'=>∃ cb,v=.func (.func 178) #[] #[aI cb]∧aD (pt cb (.cells #[.slice ka ks.length kc] 74 (0,0))::Ho b4 0::aL 9 1 ka ks.length kc (ks.map Value.string)::co b A::EG b3 0::Ho b2 0::pt b1 (.cells #[.string dir] 9 (0,0))::pt b0 (.cells #[aI b] 23 (0,0))::F) h':=by
    apply FI.ap;unfold Li;refine aQ H7 fun cb h8 H8=>?_;exact ⟨cb,rfl,H8⟩
   refine in89.mono ?_;rintro v h8 ⟨cb,rfl,H8⟩;refine ⟨_,rfl,?_⟩;have eclean:A.clean dir=match AF.bW dir ks A 0 with
    | (B,.error e)=>(B,.error e)
    | (B,.ok n)=>if 0<n then (if (B.syncDir dir).2=0 then ((B.syncDir dir).1,.ok n) else ((B.syncDir dir).1,.error (B.syncDir dir).2)) else (B,.ok n):=by
    unfold AF.FS.clean;simp only [hli]
    try rfl
   intro rec hrec hy;refine jA ?_;have H9:=(H8.push (.deferred (some []))).push (rec .ready none);rw [Array.size_push] at H9;refine (Aq (l:=ks.length) (a:=ka) (c:=kc) (fun i h2=>∃ (B:AF.FS) (n:Nat),AF.bW dir (ks.take i) A 0=(B,.ok n)∧n≤i∧B.WF∧B.steps≤A.steps+i∧aD (pt (h8.size+1) (rec .ready none)::pt h8.size (.deferred (some []))::
     pt cb (.cells #[.slice ka ks.length kc] 74 (0,0))::Ho b4 (n:Int)::aL 9 1 ka ks.length kc (ks.map Value.string)::co b B::EG b3 0::Ho b2 0::pt b1 (.cells #[.string dir] 9 (0,0))::pt b0 (.cells #[aI b] 23 (0,0))::F) h2)
    (fun h2=>(∃ (B:AF.FS) (n:Nat),AF.bW dir ks A 0=(B,.ok n)∧n≤ks.length∧B.WF∧B.steps≤A.steps+4096∧aD (pt (h8.size+1) (rec .ready none)::pt h8.size (.deferred (some []))::Ho b4 (n:Int)::co b B::EG b3 0::Ho b2 0::pt b1 (.cells #[.string dir] 9 (0,0))::pt b0 (.cells #[aI b] 23 (0,0))::F) h2)∨
     ∃ (B:AF.FS) (e:Nat),AF.bW dir ks A 0=(B,.error e)∧e≠0∧B.WF∧B.steps≤A.steps+4097∧aD (pt (h8.size+1) (rec .done (some .ret))::pt h8.size (.deferred (some []))::co b B::EG b3 (e:Int)::Ho b2 0::F) h2)
    rfl (by omega) ?_ ?_ ?_ ?_ ?_).mono ?_
   · rintro i h2 ⟨B,n,_,_,_,_,H⟩;exact ⟨(H.mv 2).get,aH (H.mv 4)⟩
   · exact ⟨A,0,rfl,av _,W,av _,H9⟩
   · rintro i s h2 hsi ht ⟨B,n,hc,hn,WB,hBs,H⟩;refine ⟨B,n,?_,by omega,WB,by omega,H⟩;rw [ax,hsi];show AF.bW dir (ks.take i++[s]) A 0=_;rw [AF.eG,hc];simp only [AF.bW,ht,Bool.false_eq_true,if_false]
   · rintro i s h2 hsi ht ⟨B,n,hc,hn,WB,hBs,H⟩;have hil:=(aj.1 hsi).1;refine gh ?_;have hL:=H.get;refine hy _ _ _ rfl hL ⟨s,rfl,hL,?_⟩;have K:=H.set (rec .busy none);refine gJ (v:=aI b) (K.mv 9).get rfl ?_;show DP (.pointer (some ⟨b,0,none⟩)) _;rw [bD];refine gJ (v:=.string dir) (K.mv 8).get rfl ?_;rw [aW];have hsr:=xo (hright s (ai hsi));refine (l5 WB (by omega) hd (k:=s) (by omega) (K.mv 5)).mono ?_;rintro v h3 ⟨rfl,K2⟩;rw [aJ];have htake:AF.bW dir (ks.take (i+1)) A 0=AF.bW dir [s] B n:=by
      rw [ax,hsi];show AF.bW dir (ks.take i++[s]) A 0=_;rw [AF.eG,hc]
     have hst:=AF.kL (A:=B) dir s;by_cases he:(B.remove dir s).2=0
     · rw [he,show (((0:Nat):Int)!=0)=false from rfl,aa];refine gJ (v:=.int .i64 (n:Int)) (K2.mv 4).get rfl ?_;rw [aJ,aK (by omega)];refine ud (v:=.int .i64 ((n+1:Nat):Int)) (K2.mv 4) fun h4 K3=>?_;have hL3:=(K3.mv 2).get;refine ⟨hL3,true,rfl,fun _=>?_,fun e=>by cases e⟩;have K4:=(K3.mv 2).set (rec .ready none);refine ⟨(B.remove dir s).1,n+1,?_,by omega,WB.remove dir s,by omega,K4.ordT 10 [0,3,4,1,5,2,6,7,8,9]⟩;rw [htake];simp only [AF.bW,ht,he,if_true]
     · rw [bo he,ab,aV];refine ud (v:=.int .i64 0) (K2.mv 7) fun h4 K3=>?_;refine ud (v:=.int .i64 ((B.remove dir s).2:Int)) (K3.mv 7) fun h5 K4=>?_;refine ⟨(K4.mv 3).get,false,rfl,fun e=>(by cases e),fun _=>?_⟩;have K5:=(K4.mv 3).set (rec .done (some .ret));refine .inr ⟨(B.remove dir s).1,(B.remove dir s).2,?_,he,WB.remove dir s,by omega,K5.ordT 10 [0,4,3,1,2]⟩;have e2:ks=ks.take (i+1)++ks.drop (i+1):=(take_append_drop (i+1) ks).symm;rw [e2,AF.eG,htake];simp only [AF.bW,ht,he,if_true,if_false]
   · rintro h2 ⟨B,n,hc,hn,WB,hBs,H⟩;rw [take_length] at hc;exact .inl ⟨B,n,hc,hn,WB,by omega,H.ordT 10 [0,1,3,5,6,7,8,9]⟩
   · rintro v h9 ⟨_,⟨B,n,hc,hn,WB,hBs,H⟩ | ⟨B,e,hc,e0,WB,hBs,H⟩⟩
     · refine ⟨.ready,none,H.get,by decide,?_⟩;have K:=H.set (rec .exhausted none);rw [hc] at eclean;simp only at eclean;refine ⟨.inl rfl,fun _=>?_,fun e=>by cases e⟩;refine gJ (v:=.int .i64 (n:Int)) (K.mv 2).get rfl ?_;rw [aJ];by_cases hn0:0<n
       · rw [af (by omega),ab];rw [al hn0] at eclean;refine gJ (v:=aI b) (K.mv 7).get rfl ?_;show DP (.pointer (some ⟨b,0,none⟩)) _;rw [bD];refine gJ (v:=.string dir) (K.mv 6).get rfl ?_;rw [aW];refine (l7 WB (by omega) hd (K.mv 3)).mono ?_;rintro v h10 ⟨rfl,K2⟩;rw [aJ];have hst:=AF.jV (A:=B) dir;by_cases he:(B.syncDir dir).2=0
         · rw [he,show (((0:Nat):Int)!=0)=false from rfl,aa];rw [al he] at eclean;rw [eclean];refine gJ (v:=.int .i64 (n:Int)) (K2.mv 3).get rfl ?_;rw [aJ,aV,aV];refine ud (v:=.int .i64 (n:Int)) (K2.mv 5) fun h11 K3=>?_;refine ud (v:=.int .i64 0) (K3.mv 5) fun h12 K4=>?_;have K5:=(K4.mv 4).set (.deferred none);refine ⟨(K4.mv 4).get,?_⟩;refine gJ (v:=.int .i64 (n:Int)) (K5.mv 2).get rfl ?_;rw [aJ];refine gJ (v:=.int .i64 0) (K5.mv 1).get rfl ?_;rw [aJ];exact ⟨rfl,fun e he=>(by cases he),WB.syncDir dir,by show (B.syncDir dir).1.steps≤_; omega,K5.ordT 8 [3]⟩
         · rw [bo he,ab];rw [ak he] at eclean;rw [eclean,aV,aV];refine ud (v:=.int .i64 0) (K2.mv 5) fun h11 K3=>?_;refine ud (v:=.int .i64 ((B.syncDir dir).2:Int)) (K3.mv 5) fun h12 K4=>?_;have K5:=(K4.mv 4).set (.deferred none);refine ⟨(K4.mv 4).get,?_⟩;refine gJ (v:=.int .i64 0) (K5.mv 2).get rfl ?_;rw [aJ];refine gJ (v:=.int .i64 ((B.syncDir dir).2:Int)) (K5.mv 1).get rfl ?_;rw [aJ];exact ⟨rfl,fun e he'=>by cases he'; exact he,WB.syncDir dir,by show (B.syncDir dir).1.steps≤_; omega,K5.ordT 8 [3]⟩
       · rw [ae (by omega),aa];rw [ak hn0] at eclean;rw [eclean];refine gJ (v:=.int .i64 (n:Int)) (K.mv 2).get rfl ?_;rw [aJ,aV,aV];refine ud (v:=.int .i64 (n:Int)) (K.mv 5) fun h11 K3=>?_;refine ud (v:=.int .i64 0) (K3.mv 5) fun h12 K4=>?_;have K5:=(K4.mv 3).set (.deferred none);refine ⟨(K4.mv 3).get,?_⟩;refine gJ (v:=.int .i64 (n:Int)) (K5.mv 2).get rfl ?_;rw [aJ];refine gJ (v:=.int .i64 0) (K5.mv 1).get rfl ?_;rw [aJ];exact ⟨rfl,fun e he=>(by cases he),WB,by show B.steps≤_; omega,K5.ordT 8 [5]⟩
     · refine ⟨.done,some .ret,H.get,by decide,?_⟩;have K:=H.set (rec .exhausted (some .ret));rw [hc] at eclean;simp only at eclean;rw [eclean];refine ⟨.inr rfl,fun e=>(by cases e),fun _=>?_⟩;have K5:=(K.mv 1).set (.deferred none);refine ⟨(K.mv 1).get,?_⟩;refine gJ (v:=.int .i64 0) (K5.mv 4).get rfl ?_;rw [aJ];refine gJ (v:=.int .i64 (e:Int)) (K5.mv 3).get rfl ?_;rw [aJ];exact ⟨rfl,fun e' he'=>by cases he'; exact e0,WB,by show B.steps≤_; omega,K5.ordT 5 [2]⟩
 · refine ⟨none,0,0,(e:Int),rfl,?_⟩;rw [bo e0,ab];have er:A.clean dir=(A,.error e):=by unfold AF.FS.clean; rw [hli]
   rw [er,aV,aV];refine ud (v:=.int .i64 0) (H5.mv 2) fun h6 H6=>?_;refine ud (v:=.int .i64 (e:Int)) (H6.mv 2) fun h7 H7=>?_;refine gJ (v:=.int .i64 0) (H7.mv 1).get rfl ?_;rw [aJ];refine gJ (v:=.int .i64 (e:Int)) H7.get rfl ?_;rw [aJ];exact ⟨rfl,fun e' he'=>by cases he'; exact e0,W,Nat.le_add_right _ _,H7.ordT 5 [2]⟩
end
section
variable {b:Nat} {A:AF.FS} {F C:List aE} {h:Heap} {dir name:ByteArray}
def oz (b:Nat) (k:Nat) (r:AF.FS×Except Nat (List ByteArray)) (F:List aE) (v:Value) (h':Heap):Prop:=
 r.1.WF∧r.1.steps≤k∧((∃ (ks:List ByteArray) (a:Option Addr) (c:Nat),r.2=.ok ks∧(∀ k∈ks,AF.right k=true)∧ks.length≤4096∧v=.tuple #[.slice a ks.length c,.int .i64 0]∧aD (aL 9 1 a ks.length c (ks.map Value.string)::co b r.1::F) h')∨
  (∃ e:Nat,r.2=.error e∧e≠0∧v=.tuple #[.slice none 0 0,.int .i64 (e:Int)]∧aD (co b r.1::F) h'))
theorem sj {Q:Value→Heap→Prop} (W:A.WF) (hs:A.steps+10000<1099511627776) (hd:dir.size<4611686018427387904) (H:aD (co b A::F) h) (hQ:∀ v h',oz b (A.steps+5000) (A.tidy dir) F v h'→Q v h') :
  aC prog 94 [aI b,.string dir] h fun r4 h_4=>
  ∃ (x6:Int),∃ (x7:Int),r4=.tuple #[.int .i64 x6,.int .i64 x7]∧
  (bif (x7:Int)!=0 then
   Q (.tuple #[.slice none 0 0,.int .i64 x7]) h_4
  else
   aC prog 90 [aI b,.string dir] h_4 fun r5 h_5=>
   ∃ (x8a:Option Addr),∃ (x8l:Nat),∃ (x8c:Nat),∃ (x9:Int),r5=.tuple #[.slice x8a x8l x8c,.int .i64 x9]∧
   Q (.tuple #[.slice x8a x8l x8c,.int .i64 x9]) h_5):=by
 refine (CB W hs hd H).mono ?_
 rintro v h1 ⟨rfl,he,W1,hs1,H1⟩
 cases hc:(A.clean dir).2 with
 | error e=>
   have e0:=he e hc;refine ⟨0,(e:Int),rfl,?_⟩;rw [bo e0,ab];have et:A.tidy dir=((A.clean dir).1,.error e):=by
    unfold AF.FS.tidy;have:A.clean dir=((A.clean dir).1,.error e):=by rw [← hc]
    rw [this]
   refine hQ _ _ ?_;rw [et];exact ⟨W1,hs1,.inr ⟨e,rfl,e0,rfl,H1⟩⟩
 | ok n=>
   refine ⟨(n:Int),0,rfl,?_⟩;rw [show ((0:Int)!=0)=false from rfl,aa];have et:A.tidy dir=((A.clean dir).1,(A.clean dir).1.list dir):=by
    unfold AF.FS.tidy;have:A.clean dir=((A.clean dir).1,.ok n):=by rw [← hc]
    rw [this]
   refine (lZ W1 hd H1).mono ?_;rintro v h2 (⟨ks,a,c,hl,hright,hkl,rfl,H2⟩ | ⟨e,hl,e0,rfl,H2⟩)
   · refine ⟨a,ks.length,c,0,rfl,hQ _ _ ?_⟩;rw [et];exact ⟨W1,hs1,.inl ⟨ks,a,c,hl,hright,hkl,rfl,H2⟩⟩
   · refine ⟨none,0,0,(e:Int),rfl,hQ _ _ ?_⟩;rw [et];exact ⟨W1,hs1,.inr ⟨e,hl,e0,rfl,H2⟩⟩
theorem C3 (W:A.WF) (hs:A.steps+20000<1099511627776) (hd:dir.size<4611686018427387904) (H:aD (co b A::F) h) :
  aC prog 31 [aI b,.string dir] h (oz b (A.steps+5001) (A.prep dir) F):=by
 apply ID.ap
 unfold Nc
 have other:A.prep dir=A.tidy dir→∀ h',aD (co b A::F) h'→aC prog 94 [aI b,.string dir] h' fun r4 h_4=>
  ∃ (x6:Int),∃ (x7:Int),r4=.tuple #[.int .i64 x6,.int .i64 x7]∧
  (bif (x7:Int)!=0 then
   oz b (A.steps+5001) (A.prep dir) F (.tuple #[.slice none 0 0,.int .i64 x7]) h_4
  else
   aC prog 90 [aI b,.string dir] h_4 fun r5 h_5=>
   ∃ (x8a:Option Addr),∃ (x8l:Nat),∃ (x8c:Nat),∃ (x9:Int),r5=.tuple #[.slice x8a x8l x8c,.int .i64 x9]∧
   oz b (A.steps+5001) (A.prep dir) F (.tuple #[.slice x8a x8l x8c,.int .i64 x9]) h_5):=by
  intro ep h' H';refine sj W (by omega) hd H' fun v h2 hl=>?_;rw [ep];exact ⟨hl.1,by have:=hl.2.1; omega,hl.2.2⟩
 refine (lZ W hd H).mono ?_
 rintro v h1 (⟨ks,a,c,hl,hright,hkl,rfl,H1⟩ | ⟨e,hl,e0,rfl,H1⟩)
 · refine ⟨a,ks.length,c,0,rfl,?_⟩;rw [show ((0:Int)==61)=false from rfl,aa];exact other (by unfold AF.FS.prep; rw [hl]) h1 H1.drop
 · refine ⟨none,0,0,(e:Int),rfl,?_⟩;by_cases h61:e=61
   · subst h61;rw [show (((61:Nat):Int)==61)=true from rfl,ab];refine (rH W (by omega) hd H1).mono ?_;rintro v h2 ⟨rfl,H2⟩;rw [aJ];have W2:=W.mkdir dir;have hs2:=AF.vT (A:=A) dir;by_cases he:(A.mkdir dir).2=0
     · rw [he,show (((0:Nat):Int)!=0)=false from rfl,aa];have ep:A.prep dir=(A.mkdir dir).1.tidy dir:=by
        unfold AF.FS.prep;rw [hl];simp only [he,if_true]
       refine sj W2 (by omega) hd H2 fun v h3 hl3=>?_;rw [ep];exact ⟨hl3.1,by have:=hl3.2.1; omega,hl3.2.2⟩
     · rw [bo he,ab];have ep:A.prep dir=((A.mkdir dir).1,.error (A.mkdir dir).2):=by
        unfold AF.FS.prep;rw [hl];simp only [ak he]
       rw [ep];exact ⟨W2,by show (A.mkdir dir).1.steps≤_; omega,.inr ⟨_,rfl,he,rfl,H2⟩⟩
   · have:((e:Int)==61)=false:=by rw [beq_eq_false_iff_ne]; omega
     rw [this,aa];refine other ?_ h1 H1;unfold AF.FS.prep;rw [hl];split
     · rename_i he;cases he;exact absurd rfl h61
     · rfl
end
namespace Hex
def iD (k:Nat):Nat:=if k<10 then 48+k else 87+k
def cU:Nat→Nat→List Nat
 | 0,_=>[]
 | k+1,m=>iD (m / 16^k%16)::cU k m
theorem gg:∀ k m,(cU k m).length=k
 | 0,_=>rfl
 | k+1,m=>by rw [cU,ao,gg k m]
theorem ws:∀ (k m i:Nat),i<k→(cU k m)[i]? = some (iD (m / 16^(k - 1 - i)%16))
 | 0,m,i,h=>by omega
 | k+1,m,0,h=>rfl
 | k+1,m,i+1,h=>by
   rw [cU,List.getElem?_cons_succ,ws k m i (by omega)];congr 5;omega
theorem mr {x:Nat} (h:x<16):iD x<256:=by unfold iD; split <;> omega
theorem jO:∀ k m,B8 (cU k m)
 | 0,_=>fun n h=>by cases h
 | k+1,m=>fun n h=>by
   rcases ay.1 h with rfl | h
   · exact mr (Nat.mod_lt _ (by omega))
   · exact jO k m n h
theorem zN:∀ x:Fin 16,∀ y:Fin 16,(UInt8.ofNat (iD x)<UInt8.ofNat (iD y)↔x<y)∧(UInt8.ofNat (iD x)=UInt8.ofNat (iD y)↔x=y):=by decide
theorem yR:∀ (k a b:Nat),((cU k a).map UInt8.ofNat<(cU k b).map UInt8.ofNat)↔a%16^k<b%16^k
 | 0,a,b=>by simp [cU,Nat.mod_one]
 | k+1,a,b=>by
   rw [cU,cU,map_cons,map_cons,List.cons_lt_cons_iff,yR k a b,Nat.mod_pow_succ,Nat.mod_pow_succ];have hx:a / 16^k%16<16:=Nat.mod_lt _ (by omega);have hy:b / 16^k%16<16:=Nat.mod_lt _ (by omega);have h1:=zN ⟨_,hx⟩ ⟨_,hy⟩;simp only [Fin.mk_lt_mk,Fin.mk.injEq] at h1;rw [h1.1,h1.2];have hr:a%16^k<16^k:=Nat.mod_lt _ (Nat.pow_pos (by omega));have hs:b%16^k<16^k:=Nat.mod_lt _ (Nat.pow_pos (by omega));generalize a / 16^k%16=x at *;generalize b / 16^k%16=y at *;generalize a%16^k=r at *;generalize b%16^k=s at *;generalize 16^k=P at *
   rcases Nat.lt_trichotomy x y with h | h | h
   · have:P*(x+1)≤P*y:=Nat.mul_le_mul_left P h;rw [Nat.mul_add,Nat.mul_one] at this;constructor
     · intro _; omega
     · intro _; exact .inl h
   · subst h;constructor
     · rintro (h | ⟨_,h⟩)
       · omega
       · omega
     · intro h; exact .inr ⟨rfl,by omega⟩
   · have:P*(y+1)≤P*x:=Nat.mul_le_mul_left P h;rw [Nat.mul_add,Nat.mul_one] at this;constructor
     · rintro (h | ⟨h,_⟩) <;> omega
     · intro _; omega
theorem Ha {a b:Nat} (ha:a<18446744073709551616) (hb:b<18446744073709551616):ls (bT (cU 16 a)) (bT (cU 16 b))=decide (a<b):=by
 rw [AF.nJ]
 have h:=yR 16 a b
 rw [Nat.mod_eq_of_lt (show a<16^16 from ha),Nat.mod_eq_of_lt (show b<16^16 from hb)] at h
 unfold AF.jn
 exact decide_eq_decide.2 h
end Hex
open Hex (iD cU)
theorem Ke {a b:Nat} (ha:a<18446744073709551616) (hb:b<18446744073709551616):bq .and .u64 (a:Int) (b:Int)=((a &&& b:Nat):Int):=by
 have h:=Nat.and_lt_two_pow (n:=64) a hb
 show IntKind.u64.wrap ((BitVec.ofInt 64 (a:Int) &&& BitVec.ofInt 64 (b:Int)).toNat:Int)=_
 rw [BitVec.ofInt_natCast,BitVec.ofInt_natCast,BitVec.toNat_and,BitVec.toNat_ofNat,BitVec.toNat_ofNat,Nat.mod_eq_of_lt (show a<2^64 from ha),Nat.mod_eq_of_lt (show b<2^64 from hb)]
 exact IntWalk.u64_in _ (by omega)
theorem Kg (a:Nat):a &&& 15=a%16:=Nat.and_two_pow_sub_one_eq_mod a 4
theorem Hk:∀ k:Fin 16,bt ⟨#[48,49,50,51,52,53,54,55,56,57,97,98,99,100,101,102]⟩ ((k.val:Nat):Int)=((iD k.val:Nat):Int):=by decide
section
variable {F:List aE} {h:Heap}
def eY (n:Int):Nat:=(wrap .u64 n).toNat
theorem nY (n:Int):eY n<18446744073709551616:=by unfold eY; rw [IntKind.wrap_u64]; omega
theorem vS (n:Int):wrap .u64 n=(eY n:Int):=by unfold eY; rw [IntKind.wrap_u64]; omega
theorem sM {n:Nat} (h:n<18446744073709551616):eY (n:Int)=n:=by unfold eY; rw [IntKind.wrap_u64]; omega
theorem jy {n:Int} (H:aD F h):aC prog 35 [.int .i64 n] h fun v h'=>v=.string (bT (cU 16 (eY n)))∧aD F h':=by
 apply Iz.ap
 unfold M8
 refine aQ H fun b0 h1 H1=>?_
 have hlt:=nY n
 have hne:=vS n
 generalize eY n=m at hlt hne
 rw [hne]
 have K0:aD (aL 165 1 (some ⟨b0,0,none⟩) 16 16 ((List.replicate 16 0).map nv)::F) h1:=fB H1 (bO _) (av _) (by decide) rfl rfl
 refine ⟨fun st hh=>∃ (i:Nat) (xs:List Nat),st=(i:Int)∧i≤16∧xs.length=16∧(∀ j,j<i→xs[j]? = (cU 16 m)[j]?)∧aD (aL 165 1 (some ⟨b0,0,none⟩) 16 16 (xs.map nv)::F) hh,fun st _=>(16 - st).toNat,⟨0,List.replicate 16 0,rfl,au _,rfl,fun j hj=>by omega,K0⟩,?_⟩
 rintro st h2 ⟨i,xs,rfl,hi,hxl,hx,H2⟩
 by_cases hlt2:i<16
 · rw [af (show ((i:Int)<16) by omega),ab];have w1:wrap .i64 (60 - wrap .i64 (4*(i:Int)))=((4*(15 - i):Nat):Int):=by
    rw [IntWalk.i64_in (4*(i:Int)) (by omega),IntWalk.i64_in _ (by omega)];omega
   rw [w1];have hb64:4*(15 - i)≤IntKind.u64.bits:=by show 4*(15 - i)≤64; omega
   rw [je .u64 m (4*(15 - i)) hb64];have hdl:m / 2^(4*(15 - i))<18446744073709551616:=Nat.lt_of_le_of_lt (Nat.div_le_self _ _) hlt;rw [show (15:Int)=((15:Nat):Int) from rfl,Ke hdl (by omega),Kg];have hpow:2^(4*(15 - i))=16^(15 - i):=by rw [Nat.pow_mul]
   rw [hpow];have hk:m / 16^(15 - i)%16<16:=Nat.mod_lt _ (by omega);have hbt:=Hk ⟨_,hk⟩;simp only at hbt;rw [hbt];refine ⟨by omega,by omega,by show ((m / 16^(15 - i)%16:Nat):Int)<16; omega,by omega,by omega,?_⟩;rw [Int.toNat_natCast,Nat.mul_one,aV];refine lA (j:=i) (v:=nv (iD (m / 16^(15 - i)%16))) H2 (by rw [an]; omega) fun h3 H3=>?_;rw [← map_set] at H3;rw [aK (by omega)];refine ⟨⟨i+1,xs.set i (iD (m / 16^(15 - i)%16)),rfl,by omega,by rw [length_set]; exact hxl,fun j hj=>?_,H3⟩,by show (16 - ((i+1:Nat):Int)).toNat<(16 - (i:Int)).toNat; omega⟩;rw [getElem?_set];by_cases hij:i=j
   · subst hij;rw [al rfl,al (by omega),Hex.ws 16 m i hlt2]
   · rw [ak hij];exact hx j (by omega)
 · rw [ae (by omega),aa];have e:xs=cU 16 m:=by
    apply List.ext_getElem?;intro j;by_cases hj:j<16
    · exact hx j (by omega)
    · rw [getElem?_eq_none (by omega),getElem?_eq_none (by rw [Hex.gg]; omega)]
   subst e;exact ⟨bT (cU 16 m),ct (aH H2) (Hex.gg 16 m) (Hex.jO 16 m),rfl,H2.drop⟩
end
namespace AF
end AF
end Go.Proofs.YtmemjbiijclbdaaGreat
