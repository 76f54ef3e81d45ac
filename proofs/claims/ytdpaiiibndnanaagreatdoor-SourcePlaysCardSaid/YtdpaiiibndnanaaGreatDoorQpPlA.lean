/- Files by their places: plain. Raw: the walk. Raw and Put: the walks. Get,Clean: the walks. Ready,Hex: the walks. Hex: what it computes,and that digits stand as numbers do. The chapter's examples; PlaceNil,PlaceSorts. -/
import Derived.Test.YtdpaiiibndnanaaGreatDoorQpFpA
import Derived.Test.YtdpaiiibndnanaaGreatDoorQpCrA
import Derived.Test.YtdpaiiibndnanaaGreatDoorQpTd
namespace Go.Proofs.YtdpaiiibndnanaaGreatDoor
open Go.IntKind (wrap)
open Go.Proofs.Tryz (prog)
open List (take_append_drop map_cons cons_append getElem?_eq_none getElem?_of_mem findIdx?_eq_none_iff findIdx?_eq_some_iff_getElem getElem?_set take_length take_succ_cons take_zero any_eq_false getElem_mem getElem?_cons_zero map_set length_set)
open Go
set_option linter.unusedVariables false
set_option linter.unusedSimpArgs false
namespace AF
open Frame (bZ cq)
def fg:ByteArray:=⟨#[116,109,112,46]⟩
def fJ:List (FS→FS×Nat)→FS→FS×Nat
 | [],A=>(A,0)
 | g::gs,A=>if (g A).2=0 then fJ gs (g A).1 else g A
def eh (dir name:ByteArray) (bs:List Nat):List (FS→FS×Nat):=
 [fun A=>A.create dir (fg++name),fun A=>A.append dir (fg++name) bs,fun A=>A.sync dir (fg++name),fun A=>A.rename dir (fg++name) name,fun A=>A.syncDir dir]
def gh (dir name:ByteArray) (bs:List Nat) (l:List ByteArray):List (FS→FS×Nat):=
 if (l.any fun s=>decide (s=fg++name))=true then (fun A:FS=>A.remove dir (fg++name))::eh dir name bs else eh dir name bs
def FS.raw (A:FS) (dir name:ByteArray) (bs:List Nat):FS×Nat:=
 if 28<name.size then (A,65) else match A.list dir with
  | .error e=>(A,e)
  | .ok l=>fJ (gh dir name bs l) A
def jw (s:ByteArray):Bool:=decide (4≤s.size)&&decide ((sb s).take 4=sb fg)
def bU (dir:ByteArray):List ByteArray→FS→Nat→FS×Except Nat Nat
 | [],A,n=>(A,.ok n)
 | s::l,A,n=>if jw s then (if (A.remove dir s).2=0 then bU dir l (A.remove dir s).1 (n+1) else ((A.remove dir s).1,.error (A.remove dir s).2)) else bU dir l A n
def FS.clean (A:FS) (dir:ByteArray):FS×Except Nat Nat:=match A.list dir with
 | .error e=>(A,.error e)
 | .ok l=>match bU dir l A 0 with
   | (B,.error e)=>(B,.error e)
   | (B,.ok n)=>if 0<n then (if (B.syncDir dir).2=0 then ((B.syncDir dir).1,.ok n) else ((B.syncDir dir).1,.error (B.syncDir dir).2)) else (B,.ok n)
def FS.tidy (A:FS) (dir:ByteArray):FS×Except Nat (List ByteArray):=
 match A.clean dir with
 | (B,.error e)=>(B,.error e)
 | (B,.ok _)=>(B,B.list dir)
def FS.prep (A:FS) (dir:ByteArray):FS×Except Nat (List ByteArray):=
 match A.list dir with
 | .error 61=>if (A.mkdir dir).2=0 then (A.mkdir dir).1.tidy dir else ((A.mkdir dir).1,.error (A.mkdir dir).2)
 | _=>A.tidy dir
variable {A:FS}
theorem fO {g:FS→FS} (hg:(g A.stepOn).steps=A.stepOn.steps):(A.step g).1.steps≤A.steps+1:=by
 unfold FS.step
 split
 · exact Nat.le_succ _
 · rw [hg];exact ax _
theorem tq (dir:ByteArray):(A.mkdir dir).1.steps≤A.steps+1:=by
 unfold FS.mkdir
 split
 · exact Nat.le_succ _
 · split
   · split
     · exact Nat.le_succ _
     · exact fO rfl
   · exact Nat.le_succ _
theorem jU (dir name:ByteArray):(A.create dir name).1.steps≤A.steps+1:=by
 unfold FS.create
 split
 · exact Nat.le_succ _
 · split
   · exact Nat.le_succ _
   · split
     · exact Nat.le_succ _
     · exact fO rfl
theorem mu (dir name:ByteArray) (b:List Nat):(A.append dir name b).1.steps≤A.steps+1:=by
 unfold FS.append
 split
 · exact Nat.le_succ _
 · split
   · exact Nat.le_succ _
   · split
     · exact Nat.le_succ _
     · exact fO rfl
theorem iw (dir name:ByteArray):(A.sync dir name).1.steps≤A.steps+1:=by
 unfold FS.sync
 split
 · exact Nat.le_succ _
 · exact fO rfl
theorem ja (dir:ByteArray):(A.syncDir dir).1.steps≤A.steps+1:=by
 unfold FS.syncDir
 split
 · exact Nat.le_succ _
 · exact fO rfl
theorem rQ (dir a b:ByteArray):(A.rename dir a b).1.steps≤A.steps+1:=by
 unfold FS.rename
 split
 · exact Nat.le_succ _
 · split
   · exact Nat.le_succ _
   · exact fO rfl
theorem lV (dir a:ByteArray):(A.remove dir a).1.steps≤A.steps+1:=by
 unfold FS.remove
 split
 · exact Nat.le_succ _
 · exact fO rfl
end AF
open Go Go.RowKit
section
variable {b:Nat} {A:AF.FS} {F C:List aF} {h:Heap}
theorem xi {s:ByteArray} {ss:List ByteArray} {a:Option Addr} {l c:Nat} (hr:cv h a (ss.map Value.string)) (hl:ss.length=l) (hm:l<4611686018427387904) :
  aE prog 174 [.slice a l c,.string s] h fun v h'=>h'=h∧v=.int .i64 (HR (ss.findIdx? fun k=>decide (k=s))):=by
 apply BT.ap
 unfold GD
 refine ⟨fun st hh=>hh=h∧∃ i:Nat,st=(i:Int)∧i≤l∧∀ (j:Nat) (k:ByteArray),j<i→ss[j]? = some k→k≠s,fun st _=>((l:Int) - st).toNat,⟨rfl,0,rfl,aw _,fun j k hj=>by omega⟩,?_⟩
 rintro st h1 ⟨rfl,i,rfl,hi,hno⟩
 by_cases hlt:i<l
 · rw [ah (show ((i:Int)<(l:Int)) by omega),ae];obtain ⟨k,hk⟩:∃ k,ss[i]? = some k:=⟨_,ai (by omega)⟩
   refine bj (v:=.string k) hr (by rw [aq]; omega) (by rw [List.getElem?_map,hk]; rfl) fun b2 hb hc=>⟨_,hc,?_⟩
   show DS (.string k) _;rw [aT,gg];by_cases hks:k=s
   · rw [ah (by rw [hks]),ae];refine ⟨by trivial,?_⟩;have:ss.findIdx? (fun k=>decide (k=s))=some i:=by
      rw [findIdx?_eq_some_iff_getElem];obtain ⟨hil,he⟩:=ak.1 hk;refine ⟨hil,by simp [he,hks],fun j hj=>?_⟩;have:=hno j ss[j] hj (ai (by omega));simpa using this
     rw [this]
     rfl
   · rw [af (fun e=>hks (jL e.symm)),ab,aN (by omega)];refine ⟨⟨by trivial,i+1,rfl,by omega,fun j k' hj hk'=>?_⟩,by show ((l:Int) - ((i+1:Nat):Int)).toNat<((l:Int) - (i:Int)).toNat; omega⟩;by_cases hji:j=i
     · subst hji;rw [hk] at hk';cases hk';exact hks
     · exact hno j k' (by omega) hk'
 · rw [af (by omega),ab];refine ⟨by trivial,?_⟩;have:ss.findIdx? (fun k=>decide (k=s))=none:=by
    rw [findIdx?_eq_none_iff];intro k hk;obtain ⟨j,hj⟩:=getElem?_of_mem hk;have:=hno j k (by have:=(ak.1 hj).1; omega) hj;simpa using this
   rw [this]
   rfl
theorem xu {s:ByteArray} {ss:List ByteArray} {a:Option Addr} {l c:Nat} (hr:cv h a (ss.map Value.string)) (hl:ss.length=l) (hm:l<4611686018427387904) :
  aE prog 157 [.slice a l c,.string s] h fun v h'=>h'=h∧v=.bool (ss.any fun k=>decide (k=s)):=by
 apply B7.ap
 unfold GK
 refine (xi hr hl hm).mono ?_
 rintro v h1 ⟨rfl,rfl⟩
 rw [aL]
 refine ⟨by trivial,?_⟩
 cases hf:ss.findIdx? (fun k=>decide (k=s)) with
 | none=>
   rw [findIdx?_eq_none_iff] at hf;have:(ss.any fun k=>decide (k=s))=false:=by
    rw [any_eq_false];intro k hk;simpa using hf k hk
   rw [this]
   rfl
 | some i=>
   rw [findIdx?_eq_some_iff_getElem] at hf;obtain ⟨hi,he,_⟩:=hf;have:(ss.any fun k=>decide (k=s))=true:=List.any_eq_true.2 ⟨ss[i],getElem_mem hi,he⟩;rw [this];show Value.bool (decide ((i:Int)≥0))=_;rw [ah (by omega)]
def vp (b:Nat) (C:List aF) (v:Value) (g:AF.FS→AF.FS×Nat):Prop:=
 ∀ (A:AF.FS) (h:Heap),A.WF→A.steps<1099511627776→aG (bV b A::C) h→du prog v [] h fun r h'=>r=.int .i64 ((g A).2:Int)∧(g A).1.WF∧(g A).1.steps≤A.steps+1∧aG (bV b (g A).1::C) h'
theorem wx {gs:List (AF.FS→AF.FS×Nat)}:∀ {i:Nat} {A B:AF.FS} {g:AF.FS→AF.FS×Nat},AF.fJ (gs.take i) A=(B,0)→gs[i]? = some g→AF.fJ (gs.take (i+1)) A=g B:=by
 induction gs with
 | nil=>intro i A B g _ h; simp at h
 | cons g0 gs ih=>
   intro i A B g h1 h2
   cases i with
   | zero=>
     simp only [getElem?_cons_zero,Option.some.injEq] at h2;subst h2;simp only [take_zero,AF.fJ,Prod.mk.injEq,and_true] at h1;subst h1;simp only [take_succ_cons,take_zero,AF.fJ];split
     · rename_i e;exact Prod.ext rfl e.symm
     · rfl
   | succ i=>
     simp only [take_succ_cons,AF.fJ] at h1 ⊢;split at h1
     · rename_i e;rw [an e];exact ih h1 (by simpa using h2)
     · rename_i e;rw [h1] at e;exact absurd rfl e
theorem wA {gs:List (AF.FS→AF.FS×Nat)}:∀ {i:Nat} {A:AF.FS},(AF.fJ (gs.take i) A).2≠0→AF.fJ gs A=AF.fJ (gs.take i) A:=by
 induction gs with
 | nil=>intro i A h; simp
 | cons g0 gs ih=>
   intro i A h
   cases i with
   | zero=>exact absurd rfl h
   | succ i=>
     simp only [take_succ_cons,AF.fJ] at h ⊢;split
     · rename_i e;rw [an e] at h;exact ih h
     · rfl
theorem ot {cl:List Value} {gs:List (AF.FS→AF.FS×Nat)} {a:Option Addr} {n:Nat} {Q:Value→Heap→Prop} (hn:cl.length=n) (hg:gs.length=n) (hm:n<1000) (hd:∀ (j:Nat) (v:Value) (g:AF.FS→AF.FS×Nat),cl[j]? = some v→gs[j]? = some g→vp b C v g)
  (hr:∀ h',aG C h'→cv h' a cl) (W:A.WF) (hs:A.steps+n<1099511627776) (H:aG (bV b A::C) h)
  (hQ:∀ h',(AF.fJ gs A).1.WF→(AF.fJ gs A).1.steps≤A.steps+n→aG (bV b (AF.fJ gs A).1::C) h'→Q (.int .i64 ((AF.fJ gs A).2:Int)) h') :
  bf (fun again0 (s0:Int) h_12=>
   (bif decide ((s0:Int)<(n:Int)) then
    aO a n s0 1 fun a0=>
    Ld h_12 a0 fun v6=>∃ (s1:Value),v6=s1∧
    du prog s1 [] h_12 fun r11 h_13=>
    DI .i64 r11 fun e0=>
    (bif (e0:Int)!=0 then
     Q (.int .i64 e0) h_13
    else
     again0 (wrap .i64 (s0+1)) h_13)
   else
    Q (.int .i64 0) h_12)) 0 h:=by
 refine ⟨fun st hh=>∃ (i:Nat) (B:AF.FS),st=(i:Int)∧i≤n∧AF.fJ (gs.take i) A=(B,0)∧B.WF∧B.steps≤A.steps+i∧aG (bV b B::C) hh,fun st _=>((n:Int) - st).toNat,⟨0,A,rfl,aw _,rfl,W,ax _,H⟩,?_⟩
 rintro st h1 ⟨i,B,rfl,hi,hB,WB,hBs,H1⟩
 by_cases hlt:i<n
 · rw [ah (show ((i:Int)<(n:Int)) by omega),ae];obtain ⟨v,hv⟩:∃ v,cl[i]? = some v:=⟨_,ai (by omega)⟩
   obtain ⟨g,hgi⟩:∃ g,gs[i]? = some g:=⟨_,ai (by omega)⟩
   refine bj (v:=v) (hr h1 H1.drop) hn hv fun ba hba hc=>⟨_,hc,v,rfl,?_⟩
   refine (hd i v g hv hgi B h1 WB (by omega) H1).mono ?_;rintro r h2 ⟨rfl,W2,hs2,H2⟩;rw [aL];have ht:=wx hB hgi;by_cases he:(g B).2=0
   · rw [he,show (((0:Nat):Int)!=0)=false from rfl,ab,aN (by omega)];refine ⟨⟨i+1,(g B).1,rfl,by omega,by rw [ht]; exact Prod.ext rfl he,W2,by omega,H2⟩,by show ((n:Int) - ((i+1:Nat):Int)).toNat<((n:Int) - (i:Int)).toNat; omega⟩
   · rw [aX he,ae];have hf:=wA (gs:=gs) (i:=i+1) (A:=A) (by rw [ht]; exact he);rw [ht] at hf;have:=hQ h2;rw [hf] at this;exact this W2 (by omega) H2
 · rw [af (by omega),ab];have ei:i=n:=by omega
   subst ei;rw [av (by omega)] at hB;have:=hQ h1;rw [hB] at this;exact this WB hBs H1
end
theorem HG:prog.underlying 234=some (.slice 99):=by kernel_rfl
theorem Dj:d8 prog 234=true:=by kernel_rfl
theorem FC:gj prog 99 8=true:=by kernel_rfl
section
variable {b b1 b2 b3 b4 b5:Nat} {A:AF.FS} {F C:List aF} {h:Heap} {dir name t:ByteArray} {ba:Option Addr} {bl bc:Nat} {bs:List Nat}
theorem zb (r1:∀ h',aG C h'→h'[b1]? = some (.cells #[aM b] 32 (0,0))) (r2:∀ h',aG C h'→h'[b2]? = some (.cells #[.string dir] 9 (0,0))) (r5:∀ h',aG C h'→h'[b5]? = some (.cells #[.string t] 9 (0,0)))
  (hd:dir.size<4611686018427387904) (ht:t.size<4611686018427387904):vp b C (.func (.func 152) #[] #[aM b1,aM b2,aM b5]) fun A=>A.create dir t:=by
 intro A h W hs H
 refine gu ?_
 refine Cd (c0:=⟨b1,0,none⟩) (c1:=⟨b2,0,none⟩) (c2:=⟨b5,0,none⟩) ?_
 unfold EU
 refine nN (r1 h H.drop) ?_
 show DP (.pointer (some ⟨b,0,none⟩)) _
 rw [bo]
 refine nN (r2 h H.drop) ?_
 rw [aT]
 refine nN (r5 h H.drop) ?_
 rw [aT]
 refine (pR W hs hd ht H).mono ?_
 rintro v h1 ⟨rfl,H1⟩
 rw [aL]
 exact ⟨rfl,W.create dir t,AF.jU dir t,H1⟩
theorem za (r1:∀ h',aG C h'→h'[b1]? = some (.cells #[aM b] 32 (0,0))) (r2:∀ h',aG C h'→h'[b2]? = some (.cells #[.string dir] 9 (0,0))) (r5:∀ h',aG C h'→h'[b5]? = some (.cells #[.string t] 9 (0,0)))
  (r4:∀ h',aG C h'→h'[b4]? = some (.cells #[.slice ba bl bc] 30 (0,0))) (hr:∀ h',aG C h'→cv h' ba (bs.map nv)) (h8:B8 bs) (hl:bs.length=bl) (hlb:bl<4611686018427387904)
  (hd:dir.size<4611686018427387904) (ht:t.size<4611686018427387904):vp b C (.func (.func 153) #[] #[aM b1,aM b2,aM b5,aM b4]) fun A=>A.append dir t bs:=by
 intro A h W hs H
 refine gu ?_
 refine Cc (c0:=⟨b1,0,none⟩) (c1:=⟨b2,0,none⟩) (c2:=⟨b5,0,none⟩) (c3:=⟨b4,0,none⟩) ?_
 unfold ET
 refine nN (r1 h H.drop) ?_
 show DP (.pointer (some ⟨b,0,none⟩)) _
 rw [bo]
 refine nN (r2 h H.drop) ?_
 rw [aT]
 refine nN (r5 h H.drop) ?_
 rw [aT]
 refine nN (r4 h H.drop) ?_
 rw [aI]
 refine (pQ W hs hd ht hr hl hlb H).mono ?_
 rintro v h1 ⟨rfl,H1⟩
 rw [aL]
 exact ⟨rfl,W.append dir t h8,AF.mu dir t bs,H1⟩
theorem y9 (r1:∀ h',aG C h'→h'[b1]? = some (.cells #[aM b] 32 (0,0))) (r2:∀ h',aG C h'→h'[b2]? = some (.cells #[.string dir] 9 (0,0))) (r5:∀ h',aG C h'→h'[b5]? = some (.cells #[.string t] 9 (0,0)))
  (hd:dir.size<4611686018427387904) (ht:t.size<4611686018427387904):vp b C (.func (.func 154) #[] #[aM b1,aM b2,aM b5]) fun A=>A.sync dir t:=by
 intro A h W hs H
 refine gu ?_
 refine Cb (c0:=⟨b1,0,none⟩) (c1:=⟨b2,0,none⟩) (c2:=⟨b5,0,none⟩) ?_
 unfold ES
 refine nN (r1 h H.drop) ?_
 show DP (.pointer (some ⟨b,0,none⟩)) _
 rw [bo]
 refine nN (r2 h H.drop) ?_
 rw [aT]
 refine nN (r5 h H.drop) ?_
 rw [aT]
 refine (pP W hs hd ht H).mono ?_
 rintro v h1 ⟨rfl,H1⟩
 rw [aL]
 exact ⟨rfl,W.sync dir t,AF.iw dir t,H1⟩
theorem y8 (r1:∀ h',aG C h'→h'[b1]? = some (.cells #[aM b] 32 (0,0))) (r2:∀ h',aG C h'→h'[b2]? = some (.cells #[.string dir] 9 (0,0))) (r5:∀ h',aG C h'→h'[b5]? = some (.cells #[.string t] 9 (0,0)))
  (r3:∀ h',aG C h'→h'[b3]? = some (.cells #[.string name] 9 (0,0))) (hd:dir.size<4611686018427387904) (ht:t.size<4611686018427387904) (hn:name.size<4611686018427387904) :
  vp b C (.func (.func 155) #[] #[aM b1,aM b2,aM b5,aM b3]) fun A=>A.rename dir t name:=by
 intro A h W hs H
 refine gu ?_
 refine Ca (c0:=⟨b1,0,none⟩) (c1:=⟨b2,0,none⟩) (c2:=⟨b5,0,none⟩) (c3:=⟨b3,0,none⟩) ?_
 unfold ER
 refine nN (r1 h H.drop) ?_
 show DP (.pointer (some ⟨b,0,none⟩)) _
 rw [bo]
 refine nN (r2 h H.drop) ?_
 rw [aT]
 refine nN (r5 h H.drop) ?_
 rw [aT]
 refine nN (r3 h H.drop) ?_
 rw [aT]
 refine (ub W hs hd ht hn H).mono ?_
 rintro v h1 ⟨rfl,H1⟩
 rw [aL]
 exact ⟨rfl,W.rename dir t name,AF.rQ dir t name,H1⟩
theorem y7 (r1:∀ h',aG C h'→h'[b1]? = some (.cells #[aM b] 32 (0,0))) (r2:∀ h',aG C h'→h'[b2]? = some (.cells #[.string dir] 9 (0,0)))
  (hd:dir.size<4611686018427387904):vp b C (.func (.func 156) #[] #[aM b1,aM b2]) fun A=>A.syncDir dir:=by
 intro A h W hs H
 refine gu ?_
 refine B9 (c0:=⟨b1,0,none⟩) (c1:=⟨b2,0,none⟩) ?_
 unfold EQ
 refine nN (r1 h H.drop) ?_
 show DP (.pointer (some ⟨b,0,none⟩)) _
 rw [bo]
 refine nN (r2 h H.drop) ?_
 rw [aT]
 refine (kB W hs hd H).mono ?_
 rintro v h1 ⟨rfl,H1⟩
 rw [aL]
 exact ⟨rfl,W.syncDir dir,AF.ja dir,H1⟩
theorem DK (r1:∀ h',aG C h'→h'[b1]? = some (.cells #[aM b] 32 (0,0))) (r2:∀ h',aG C h'→h'[b2]? = some (.cells #[.string dir] 9 (0,0))) (r5:∀ h',aG C h'→h'[b5]? = some (.cells #[.string t] 9 (0,0)))
  (hd:dir.size<4611686018427387904) (ht:t.size<4611686018427387904):vp b C (.func (.func 158) #[] #[aM b1,aM b2,aM b5]) fun A=>A.remove dir t:=by
 intro A h W hs H
 refine gu ?_
 refine B6 (c0:=⟨b1,0,none⟩) (c1:=⟨b2,0,none⟩) (c2:=⟨b5,0,none⟩) ?_
 unfold EP
 refine nN (r1 h H.drop) ?_
 show DP (.pointer (some ⟨b,0,none⟩)) _
 rw [bo]
 refine nN (r2 h H.drop) ?_
 rw [aT]
 refine nN (r5 h H.drop) ?_
 rw [aT]
 refine (mB W hs hd ht H).mono ?_
 rintro v h1 ⟨rfl,H1⟩
 rw [aL]
 exact ⟨rfl,W.remove dir t,AF.lV dir t,H1⟩
theorem xX (name:ByteArray):(AF.fg++name).size=4+name.size:=by rw [ByteArray.size_append]; rfl
abbrev Ia (b:Nat) (A:AF.FS) (k:Nat) (r:AF.FS×Nat) (F:List aF):Value→Heap→Prop:=fun v h'=>v=.int .i64 (r.2:Int)∧r.1.WF∧r.1.steps≤A.steps+k∧aG (bV b r.1::F) h'
theorem xI (W:A.WF) (hs:A.steps+10<1099511627776) (hd:dir.size<4611686018427387904) (hn:name.size<4611686018427387904)
  (hr:∀ h',aG F h'→cv h' ba (bs.map nv)) (h8:B8 bs) (hl:bs.length=bl) (hlb:bl<4611686018427387904) (H:aG (bV b A::F) h) :
  aE prog 125 [aM b,.string dir,.string name,.slice ba bl bc] h (Ia b A 6 (A.raw dir name bs) F):=by
 apply Cz.ap
 unfold Hf
 refine aW H fun b1 h1 H1=>aW H1 fun b2 h2 H2=>aW H2 fun b3 h3 H3=>aW H3 fun b4 h4 H4=>?_
 refine gd (v:=aM b) (H4.mv 3).get rfl ?_
 show DP (.pointer (some ⟨b,0,none⟩)) _
 rw [bo,show (some (⟨b,0,none⟩:Addr)).isNone=false from rfl,ab]
 refine gd (v:=.string name) (H4.mv 1).get rfl ?_
 rw [aT]
 by_cases hbig:28<name.size
 · rw [ah (by omega),ae];have e:A.raw dir name bs=(A,65):=by unfold AF.FS.raw; rw [an hbig]
   rw [e];exact ⟨rfl,W,Nat.le_add_right _ _,H4.rest 4⟩
 rw [af (by omega),ab]
 refine gd (v:=.string name) (H4.mv 1).get rfl ?_
 rw [aT]
 refine ⟨by show 4+name.size≤_; omega,?_⟩
 refine aW H4 fun b5 h5 H5=>?_
 rw [aP]
 refine sV H5 fun h6 H6=>?_
 have hts:=xX name
 refine gd (v:=aM b) (H6.mv 4).get rfl ?_
 show DP (.pointer (some ⟨b,0,none⟩)) _
 rw [bo]
 refine gd (v:=.string dir) (H6.mv 3).get rfl ?_
 rw [aT]
 refine (kz W hd (H6.ordT 6 [5,0,1,2,3,4])).mono ?_
 rintro v h7 (⟨ks,ka,kc,hli,_,hkl,rfl,H7⟩ | ⟨e,hli,e0,rfl,H7⟩)
 · refine ⟨ka,ks.length,kc,0,rfl,?_⟩;rw [show ((0:Int)!=0)=false from rfl,ab];refine aW H7 fun b6 h8' H8=>?_;refine gd (v:=.string (AF.fg++name)) (H8.mv 3).get rfl ?_;rw [aT];refine (xu (aH (H8.mv 1)) rfl (by omega)).mono ?_;rintro v h9 ⟨rfl,rfl⟩;rw [bO];have eraw:A.raw dir name bs=AF.fJ (AF.gh dir name bs ks) A:=by unfold AF.FS.raw; rw [am hbig,hli]
   rw [eraw]
   cases hc:ks.any fun k=>decide (k=AF.fg++name) with
   | false=>
     rw [ab];have eall:AF.gh dir name bs ks=AF.eh dir name bs:=by unfold AF.gh; rw [hc,am (by decide)]
     rw [eall];have G0:=H8.ordT 8 [2,0,3,4,5,6,7];refine ot (b:=b) (A:=A) (C:=pt b6 (.cells #[.func (.func 152) #[] #[aM b1,aM b2,aM b5],.func (.func 153) #[] #[aM b1,aM b2,aM b5,aM b4],.func (.func 154) #[] #[aM b1,aM b2,aM b5],.func (.func 155) #[] #[aM b1,aM b2,aM b5,aM b3],.func (.func 156) #[] #[aM b1,aM b2]] 99 (0,0))::pt b5 (.cells #[.string (AF.fg++name)] 9 (0,0))::pt b4 (.cells #[.slice ba bl bc] 30 (0,0))::pt b3 (.cells #[.string name] 9 (0,0))::pt b2 (.cells #[.string dir] 9 (0,0))::pt b1 (.cells #[aM b] 32 (0,0))::F)
      (cl:=[.func (.func 152) #[] #[aM b1,aM b2,aM b5],.func (.func 153) #[] #[aM b1,aM b2,aM b5,aM b4],.func (.func 154) #[] #[aM b1,aM b2,aM b5],.func (.func 155) #[] #[aM b1,aM b2,aM b5,aM b3],.func (.func 156) #[] #[aM b1,aM b2]])
      (gs:=AF.eh dir name bs) (n:=5) rfl rfl (by omega) ?_ (fun h' hh=>ge hh rfl) W (by omega) G0 ?_
     · intro j v g hv hg;have hj:j<5:=(ak.1 hv).1
       match j,hj with
       | 0,_=>cases hv; cases hg; exact zb (fun h' hh=>(hh.mv 5).get) (fun h' hh=>(hh.mv 4).get) (fun h' hh=>(hh.mv 1).get) hd (by omega)
       | 1,_=>cases hv; cases hg; exact za (fun h' hh=>(hh.mv 5).get) (fun h' hh=>(hh.mv 4).get) (fun h' hh=>(hh.mv 1).get) (fun h' hh=>(hh.mv 2).get) (fun h' hh=>hr h' (hh.rest 6)) h8 hl hlb hd (by omega)
       | 2,_=>cases hv; cases hg; exact y9 (fun h' hh=>(hh.mv 5).get) (fun h' hh=>(hh.mv 4).get) (fun h' hh=>(hh.mv 1).get) hd (by omega)
       | 3,_=>cases hv; cases hg; exact y8 (fun h' hh=>(hh.mv 5).get) (fun h' hh=>(hh.mv 4).get) (fun h' hh=>(hh.mv 1).get) (fun h' hh=>(hh.mv 3).get) hd (by omega) hn
       | 4,_=>cases hv; cases hg; exact y7 (fun h' hh=>(hh.mv 5).get) (fun h' hh=>(hh.mv 4).get) hd
     · intro h' W' hs' H';exact ⟨rfl,W',by omega,H'.ordT 7 [0]⟩
   | true=>
     rw [ae];have eall:AF.gh dir name bs ks=(fun A:AF.FS=>A.remove dir (AF.fg++name))::AF.eh dir name bs:=by unfold AF.gh; rw [hc,an rfl]
     rw [eall];refine aW H8 fun b7 h10 H10=>?_;have K1:aG (aQ 99 1 (some ⟨b7,0,none⟩) 1 1 [.func (.func 158) #[] #[aM b1,aM b2,aM b5]]::_) h10:=fe H10 (eD _) (ax _) (by decide) rfl rfl;refine gr (b:=8) (ys:=[.func (.func 152) #[] #[aM b1,aM b2,aM b5],.func (.func 153) #[] #[aM b1,aM b2,aM b5,aM b4],.func (.func 154) #[] #[aM b1,aM b2,aM b5],.func (.func 155) #[] #[aM b1,aM b2,aM b5,aM b3],.func (.func 156) #[] #[aM b1,aM b2]])
      HG Dj FC K1 (bJ (n:=5) (c:=5) (ge (H10.mv 1) rfl) rfl) (by intro u hu; simp at hu; rcases hu with rfl | rfl | rfl | rfl | rfl <;> rfl) (by omega) fun sa sc h11 _ H11=>?_
     rw [aI];have G0:=H11.ordT 9 [3,0,4,5,6,7,8];refine ot (b:=b) (A:=A) (C:=aQ 99 1 sa (1+5) sc [.func (.func 158) #[] #[aM b1,aM b2,aM b5],.func (.func 152) #[] #[aM b1,aM b2,aM b5],.func (.func 153) #[] #[aM b1,aM b2,aM b5,aM b4],.func (.func 154) #[] #[aM b1,aM b2,aM b5],.func (.func 155) #[] #[aM b1,aM b2,aM b5,aM b3],.func (.func 156) #[] #[aM b1,aM b2]]::
      pt b5 (.cells #[.string (AF.fg++name)] 9 (0,0))::pt b4 (.cells #[.slice ba bl bc] 30 (0,0))::pt b3 (.cells #[.string name] 9 (0,0))::pt b2 (.cells #[.string dir] 9 (0,0))::pt b1 (.cells #[aM b] 32 (0,0))::F)
      (cl:=[.func (.func 158) #[] #[aM b1,aM b2,aM b5],.func (.func 152) #[] #[aM b1,aM b2,aM b5],.func (.func 153) #[] #[aM b1,aM b2,aM b5,aM b4],.func (.func 154) #[] #[aM b1,aM b2,aM b5],.func (.func 155) #[] #[aM b1,aM b2,aM b5,aM b3],.func (.func 156) #[] #[aM b1,aM b2]])
      (gs:=(fun A:AF.FS=>A.remove dir (AF.fg++name))::AF.eh dir name bs) (n:=1+5) rfl rfl (by omega) ?_ (fun h' hh=>aH hh) W (by omega) G0 ?_
     · intro j v g hv hg;have hj:j<6:=(ak.1 hv).1
       match j,hj with
       | 0,_=>cases hv; cases hg; exact DK (fun h' hh=>(hh.mv 5).get) (fun h' hh=>(hh.mv 4).get) (fun h' hh=>(hh.mv 1).get) hd (by omega)
       | 1,_=>cases hv; cases hg; exact zb (fun h' hh=>(hh.mv 5).get) (fun h' hh=>(hh.mv 4).get) (fun h' hh=>(hh.mv 1).get) hd (by omega)
       | 2,_=>cases hv; cases hg; exact za (fun h' hh=>(hh.mv 5).get) (fun h' hh=>(hh.mv 4).get) (fun h' hh=>(hh.mv 1).get) (fun h' hh=>(hh.mv 2).get) (fun h' hh=>hr h' (hh.rest 6)) h8 hl hlb hd (by omega)
       | 3,_=>cases hv; cases hg; exact y9 (fun h' hh=>(hh.mv 5).get) (fun h' hh=>(hh.mv 4).get) (fun h' hh=>(hh.mv 1).get) hd (by omega)
       | 4,_=>cases hv; cases hg; exact y8 (fun h' hh=>(hh.mv 5).get) (fun h' hh=>(hh.mv 4).get) (fun h' hh=>(hh.mv 1).get) (fun h' hh=>(hh.mv 3).get) hd (by omega) hn
       | 5,_=>cases hv; cases hg; exact y7 (fun h' hh=>(hh.mv 5).get) (fun h' hh=>(hh.mv 4).get) hd
     · intro h' W' hs' H';exact ⟨rfl,W',by omega,H'.ordT 7 [0]⟩
 · refine ⟨none,0,0,(e:Int),rfl,?_⟩;rw [aX e0,ae];have er:A.raw dir name bs=(A,e):=by unfold AF.FS.raw; rw [am hbig,hli]
   rw [er];exact ⟨rfl,W,Nat.le_add_right _ _,H7.ordT 6 [0]⟩
end
section
variable {b:Nat} {A:AF.FS} {F C:List aF} {h:Heap} {dir name:ByteArray}
theorem xj {s:ByteArray}:aE prog 173 [.string s,.string ⟨#[116,109,112,46]⟩] h fun v h'=>v=.bool (AF.jw s)∧h'=h:=by
 apply BU.ap
 unfold GE
 have in141:aE prog 175 [.string s,.string ⟨#[116,109,112,46]⟩] h fun v h'=>v=.bool (AF.jw s)∧h'=h:=by
  apply vY.ap;unfold EL;have e4:(⟨#[116,109,112,46]⟩:ByteArray).size=4:=rfl;rw [e4];by_cases h4:4≤s.size
  · rw [ah (by omega),ae];refine ⟨by omega,by omega,by omega,?_⟩;refine ⟨congrArg Value.bool ?_,rfl⟩;unfold AF.jw;rw [ah h4,Bool.true_and,gg,dR]
    rfl
  · rw [af (by omega),ab];refine ⟨congrArg Value.bool ?_,rfl⟩;unfold AF.jw;rw [af h4,Bool.false_and]
 refine in141.mono ?_
 rintro v h1 ⟨rfl,rfl⟩
 rw [bO]
 exact ⟨rfl,rfl⟩
theorem xk {yv:Value} {cb l c:Nat} {a:Option Addr} {ss:List ByteArray} (J:Nat→Heap→Prop) (Out:Heap→Prop) (hl:ss.length=l) (hm:l<4611686018427387904)
  (hcell:∀ i h2,J i h2→h2[cb]? = some (.cells #[.slice a l c] 116 (0,0))∧cv h2 a (ss.map Value.string)) (start:J 0 h)
  (skip:∀ i s h2,ss[i]? = some s→AF.jw s=false→J i h2→J (i+1) h2)
  (round:∀ i s h2,ss[i]? = some s→AF.jw s=true→J i h2→du prog yv [.string s] h2 fun r h3=>∃ go,r=.bool go∧(go=true→J (i+1) h3)∧(go=false→Out h3))
  (fin:∀ h2,J l h2→Out h2):aE prog 172 [yv,aM cb] h fun v h'=>v=.tuple #[]∧Out h':=by
 refine BV (c0:=⟨cb,0,none⟩) ?_
 unfold EM
 refine nN (hcell 0 h start).1 ?_
 rw [aI]
 refine ⟨fun st hh=>∃ i:Nat,st=(i:Int)∧i≤l∧J i hh,fun st _=>((l:Int) - st).toNat,⟨0,rfl,aw _,start⟩,?_⟩
 rintro st h1 ⟨i,rfl,hi,HJ⟩
 by_cases hlt:i<l
 · rw [ah (show ((i:Int)<(l:Int)) by omega),ae];obtain ⟨s,hs⟩:∃ s,ss[i]? = some s:=⟨_,ai (by omega)⟩
   refine bj (v:=.string s) (hcell i h1 HJ).2 (by rw [aq]; exact hl) (by rw [List.getElem?_map,hs]; rfl) fun ba hba hc=>⟨_,hc,?_⟩
   show DS (.string s) _;rw [aT];refine xj.mono ?_;rintro v h2 ⟨rfl,rfl⟩;rw [bO];have on:∀ hx,J (i+1) hx→(∃ i_1:Nat,wrap .i64 ((i:Int)+1)=(i_1:Int)∧i_1≤l∧J i_1 hx)∧((l:Int) - wrap .i64 ((i:Int)+1)).toNat<((l:Int) - (i:Int)).toNat:=by
    intro hx hj;rw [aN (by omega)];exact ⟨⟨i+1,rfl,by omega,hj⟩,by omega⟩
   cases ht:AF.jw s with
   | false=>
     rw [ab];exact on h2 (skip i s h2 hs ht HJ)
   | true=>
     rw [ae];refine (round i s h2 hs ht HJ).mono ?_;rintro r h3 ⟨go,rfl,hgo,hstop⟩;rw [bO]
     cases go with
     | false=>exact ⟨rfl,hstop rfl⟩
     | true=>exact on h3 (hgo rfl)
 · rw [af (by omega),ab];have ei:i=l:=by omega
   subst ei;exact ⟨rfl,fin h1 HJ⟩
end
namespace AF
theorem dG (dir:ByteArray):∀ (l1 l2:List ByteArray) (A:FS) (n:Nat),bU dir (l1++l2) A n=match bU dir l1 A n with
  | (B,.ok m)=>bU dir l2 B m
  | (B,.error e)=>(B,.error e)
 | [],l2,A,n=>rfl
 | s::l1,l2,A,n=>by
   simp only [cons_append,bU];split
   · split
     · exact dG dir l1 l2 _ _
     · rfl
   · exact dG dir l1 l2 _ _
end AF
section
variable {b:Nat} {A:AF.FS} {F C:List aF} {h:Heap} {dir name:ByteArray}
def gJ:Except Nat Nat→Value
 | .ok n=>.tuple #[.int .i64 (n:Int),.int .i64 0]
 | .error e=>.tuple #[.int .i64 0,.int .i64 (e:Int)]
abbrev DQ (b:Nat) (n:Int):aF:=pt b (.cells #[.int .i64 n] 3 (0,0))
abbrev AZ (b:Nat) (n:Int):aF:=pt b (.cells #[.int .i64 n] 33 (0,0))
theorem xJ (W:A.WF) (hs:A.steps+10000<1099511627776) (hd:dir.size<4611686018427387904) (H:aG (bV b A::F) h) :
  aE prog 123 [aM b,.string dir] h fun v h'=>v=gJ (A.clean dir).2∧(∀ e,(A.clean dir).2=.error e→e≠0)∧(A.clean dir).1.WF∧(A.clean dir).1.steps≤A.steps+5000∧aG (bV b (A.clean dir).1::F) h':=by
 apply CA.ap
 unfold Hg
 refine aW H fun b0 h1 H1=>aW H1 fun b1 h2 H2=>aW H2 fun b2 h3 H3=>aW H3 fun b3 h4 H4=>?_
 refine gd (v:=aM b) (H4.mv 3).get rfl ?_
 show DP (.pointer (some ⟨b,0,none⟩)) _
 rw [bo]
 refine gd (v:=.string dir) (H4.mv 2).get rfl ?_
 rw [aT]
 refine (kz W hd (H4.mv 4)).mono ?_
 rintro v h5 (⟨ks,ka,kc,hli,hright,hkl,rfl,H5⟩ | ⟨e,hli,e0,rfl,H5⟩)
 · refine ⟨ka,ks.length,kc,0,rfl,?_⟩;rw [show ((0:Int)!=0)=false from rfl,ab];refine aW H5 fun b4 h6 H6=>?_;rw [aP];refine sV (v:=.int .i64 0) H6 fun h7 H7=>?_;have in89:aE prog 151 [.slice ka ks.length kc] h7 fun v h'=>∃ cb,v=.func (.func 172) #[] #[aM cb]∧aG (pt cb (.cells #[.slice ka ks.length kc] 116 (0,0))::DQ b4 0::aQ 9 1 ka ks.length kc (ks.map Value.string)::bV b A::AZ b3 0::DQ b2 0::pt b1 (.cells #[.string dir] 9 (0,0))::pt b0 (.cells #[aM b] 32 (0,0))::F) h':=by
    apply Ce.ap;unfold GL;refine aW H7 fun cb h8 H8=>?_;exact ⟨cb,rfl,H8⟩
   refine in89.mono ?_;rintro v h8 ⟨cb,rfl,H8⟩;refine ⟨_,rfl,?_⟩;have eclean:A.clean dir=match AF.bU dir ks A 0 with
    | (B,.error e)=>(B,.error e)
    | (B,.ok n)=>if 0<n then (if (B.syncDir dir).2=0 then ((B.syncDir dir).1,.ok n) else ((B.syncDir dir).1,.error (B.syncDir dir).2)) else (B,.ok n):=by
    unfold AF.FS.clean;simp only [hli]
    try rfl
   intro rec hrec hy;refine kE ?_;have H9:=(H8.push (.deferred (some []))).push (rec .ready none);rw [Array.size_push] at H9;refine (xk (l:=ks.length) (a:=ka) (c:=kc) (fun i h2=>∃ (B:AF.FS) (n:Nat),AF.bU dir (ks.take i) A 0=(B,.ok n)∧n≤i∧B.WF∧B.steps≤A.steps+i∧aG (pt (h8.size+1) (rec .ready none)::pt h8.size (.deferred (some []))::
     pt cb (.cells #[.slice ka ks.length kc] 116 (0,0))::DQ b4 (n:Int)::aQ 9 1 ka ks.length kc (ks.map Value.string)::bV b B::AZ b3 0::DQ b2 0::pt b1 (.cells #[.string dir] 9 (0,0))::pt b0 (.cells #[aM b] 32 (0,0))::F) h2)
    (fun h2=>(∃ (B:AF.FS) (n:Nat),AF.bU dir ks A 0=(B,.ok n)∧n≤ks.length∧B.WF∧B.steps≤A.steps+4096∧aG (pt (h8.size+1) (rec .ready none)::pt h8.size (.deferred (some []))::DQ b4 (n:Int)::bV b B::AZ b3 0::DQ b2 0::pt b1 (.cells #[.string dir] 9 (0,0))::pt b0 (.cells #[aM b] 32 (0,0))::F) h2)∨
     ∃ (B:AF.FS) (e:Nat),AF.bU dir ks A 0=(B,.error e)∧e≠0∧B.WF∧B.steps≤A.steps+4097∧aG (pt (h8.size+1) (rec .done (some .ret))::pt h8.size (.deferred (some []))::bV b B::AZ b3 (e:Int)::DQ b2 0::F) h2)
    rfl (by omega) ?_ ?_ ?_ ?_ ?_).mono ?_
   · rintro i h2 ⟨B,n,_,_,_,_,H⟩;exact ⟨(H.mv 2).get,aH (H.mv 4)⟩
   · exact ⟨A,0,rfl,ax _,W,ax _,H9⟩
   · rintro i s h2 hsi ht ⟨B,n,hc,hn,WB,hBs,H⟩;refine ⟨B,n,?_,by omega,WB,by omega,H⟩;rw [az,hsi];show AF.bU dir (ks.take i++[s]) A 0=_;rw [AF.dG,hc];simp only [AF.bU,ht,Bool.false_eq_true,if_false]
   · rintro i s h2 hsi ht ⟨B,n,hc,hn,WB,hBs,H⟩;have hil:=(ak.1 hsi).1;refine kD ?_;have hL:=H.get;refine hy _ _ _ rfl hL ⟨s,rfl,hL,?_⟩;have K:=H.set (rec .busy none);refine gd (v:=aM b) (K.mv 9).get rfl ?_;show DP (.pointer (some ⟨b,0,none⟩)) _;rw [bo];refine gd (v:=.string dir) (K.mv 8).get rfl ?_;rw [aT];have hsr:=uC (hright s (aj hsi));refine (mB WB (by omega) hd (k:=s) (by omega) (K.mv 5)).mono ?_;rintro v h3 ⟨rfl,K2⟩;rw [aL];have htake:AF.bU dir (ks.take (i+1)) A 0=AF.bU dir [s] B n:=by
      rw [az,hsi];show AF.bU dir (ks.take i++[s]) A 0=_;rw [AF.dG,hc]
     have hst:=AF.lV (A:=B) dir s;by_cases he:(B.remove dir s).2=0
     · rw [he,show (((0:Nat):Int)!=0)=false from rfl,ab];refine gd (v:=.int .i64 (n:Int)) (K2.mv 4).get rfl ?_;rw [aL,aN (by omega)];refine sV (v:=.int .i64 ((n+1:Nat):Int)) (K2.mv 4) fun h4 K3=>?_;have hL3:=(K3.mv 2).get;refine ⟨hL3,true,rfl,fun _=>?_,fun e=>by cases e⟩;have K4:=(K3.mv 2).set (rec .ready none);refine ⟨(B.remove dir s).1,n+1,?_,by omega,WB.remove dir s,by omega,K4.ordT 10 [0,3,4,1,5,2,6,7,8,9]⟩;rw [htake];simp only [AF.bU,ht,he,if_true]
     · rw [aX he,ae,aP];refine sV (v:=.int .i64 0) (K2.mv 7) fun h4 K3=>?_;refine sV (v:=.int .i64 ((B.remove dir s).2:Int)) (K3.mv 7) fun h5 K4=>?_;refine ⟨(K4.mv 3).get,false,rfl,fun e=>(by cases e),fun _=>?_⟩;have K5:=(K4.mv 3).set (rec .done (some .ret));refine .inr ⟨(B.remove dir s).1,(B.remove dir s).2,?_,he,WB.remove dir s,by omega,K5.ordT 10 [0,4,3,1,2]⟩;have e2:ks=ks.take (i+1)++ks.drop (i+1):=(take_append_drop (i+1) ks).symm;rw [e2,AF.dG,htake];simp only [AF.bU,ht,he,if_true,if_false]
   · rintro h2 ⟨B,n,hc,hn,WB,hBs,H⟩;rw [take_length] at hc;exact .inl ⟨B,n,hc,hn,WB,by omega,H.ordT 10 [0,1,3,5,6,7,8,9]⟩
   · rintro v h9 ⟨_,⟨B,n,hc,hn,WB,hBs,H⟩ | ⟨B,e,hc,e0,WB,hBs,H⟩⟩
     · refine ⟨.ready,none,H.get,by decide,?_⟩;have K:=H.set (rec .exhausted none);rw [hc] at eclean;simp only at eclean;refine ⟨.inl rfl,fun _=>?_,fun e=>by cases e⟩;refine gd (v:=.int .i64 (n:Int)) (K.mv 2).get rfl ?_;rw [aL];by_cases hn0:0<n
       · rw [ah (by omega),ae];rw [an hn0] at eclean;refine gd (v:=aM b) (K.mv 7).get rfl ?_;show DP (.pointer (some ⟨b,0,none⟩)) _;rw [bo];refine gd (v:=.string dir) (K.mv 6).get rfl ?_;rw [aT];refine (kB WB (by omega) hd (K.mv 3)).mono ?_;rintro v h10 ⟨rfl,K2⟩;rw [aL];have hst:=AF.ja (A:=B) dir;by_cases he:(B.syncDir dir).2=0
         · rw [he,show (((0:Nat):Int)!=0)=false from rfl,ab];rw [an he] at eclean;rw [eclean];refine gd (v:=.int .i64 (n:Int)) (K2.mv 3).get rfl ?_;rw [aL,aP,aP];refine sV (v:=.int .i64 (n:Int)) (K2.mv 5) fun h11 K3=>?_;refine sV (v:=.int .i64 0) (K3.mv 5) fun h12 K4=>?_;have K5:=(K4.mv 4).set (.deferred none);refine ⟨(K4.mv 4).get,?_⟩;refine gd (v:=.int .i64 (n:Int)) (K5.mv 2).get rfl ?_;rw [aL];refine gd (v:=.int .i64 0) (K5.mv 1).get rfl ?_;rw [aL];exact ⟨rfl,fun e he=>(by cases he),WB.syncDir dir,by show (B.syncDir dir).1.steps≤_; omega,K5.ordT 8 [3]⟩
         · rw [aX he,ae];rw [am he] at eclean;rw [eclean,aP,aP];refine sV (v:=.int .i64 0) (K2.mv 5) fun h11 K3=>?_;refine sV (v:=.int .i64 ((B.syncDir dir).2:Int)) (K3.mv 5) fun h12 K4=>?_;have K5:=(K4.mv 4).set (.deferred none);refine ⟨(K4.mv 4).get,?_⟩;refine gd (v:=.int .i64 0) (K5.mv 2).get rfl ?_;rw [aL];refine gd (v:=.int .i64 ((B.syncDir dir).2:Int)) (K5.mv 1).get rfl ?_;rw [aL];exact ⟨rfl,fun e he'=>by cases he'; exact he,WB.syncDir dir,by show (B.syncDir dir).1.steps≤_; omega,K5.ordT 8 [3]⟩
       · rw [af (by omega),ab];rw [am hn0] at eclean;rw [eclean];refine gd (v:=.int .i64 (n:Int)) (K.mv 2).get rfl ?_;rw [aL,aP,aP];refine sV (v:=.int .i64 (n:Int)) (K.mv 5) fun h11 K3=>?_;refine sV (v:=.int .i64 0) (K3.mv 5) fun h12 K4=>?_;have K5:=(K4.mv 3).set (.deferred none);refine ⟨(K4.mv 3).get,?_⟩;refine gd (v:=.int .i64 (n:Int)) (K5.mv 2).get rfl ?_;rw [aL];refine gd (v:=.int .i64 0) (K5.mv 1).get rfl ?_;rw [aL];exact ⟨rfl,fun e he=>(by cases he),WB,by show B.steps≤_; omega,K5.ordT 8 [5]⟩
     · refine ⟨.done,some .ret,H.get,by decide,?_⟩;have K:=H.set (rec .exhausted (some .ret));rw [hc] at eclean;simp only at eclean;rw [eclean];refine ⟨.inr rfl,fun e=>(by cases e),fun _=>?_⟩;have K5:=(K.mv 1).set (.deferred none);refine ⟨(K.mv 1).get,?_⟩;refine gd (v:=.int .i64 0) (K5.mv 4).get rfl ?_;rw [aL];refine gd (v:=.int .i64 (e:Int)) (K5.mv 3).get rfl ?_;rw [aL];exact ⟨rfl,fun e' he'=>by cases he'; exact e0,WB,by show B.steps≤_; omega,K5.ordT 5 [2]⟩
 · refine ⟨none,0,0,(e:Int),rfl,?_⟩;rw [aX e0,ae];have er:A.clean dir=(A,.error e):=by unfold AF.FS.clean; rw [hli]
   rw [er,aP,aP];refine sV (v:=.int .i64 0) (H5.mv 2) fun h6 H6=>?_;refine sV (v:=.int .i64 (e:Int)) (H6.mv 2) fun h7 H7=>?_;refine gd (v:=.int .i64 0) (H7.mv 1).get rfl ?_;rw [aL];refine gd (v:=.int .i64 (e:Int)) H7.get rfl ?_;rw [aL];exact ⟨rfl,fun e' he'=>by cases he'; exact e0,W,Nat.le_add_right _ _,H7.ordT 5 [2]⟩
end
section
variable {b:Nat} {A:AF.FS} {F C:List aF} {h:Heap} {dir name:ByteArray}
def mz (b:Nat) (k:Nat) (r:AF.FS×Except Nat (List ByteArray)) (F:List aF) (v:Value) (h':Heap):Prop:=
 r.1.WF∧r.1.steps≤k∧((∃ (ks:List ByteArray) (a:Option Addr) (c:Nat),r.2=.ok ks∧(∀ k∈ks,AF.right k=true)∧ks.length≤4096∧v=.tuple #[.slice a ks.length c,.int .i64 0]∧aG (aQ 9 1 a ks.length c (ks.map Value.string)::bV b r.1::F) h')∨
  (∃ e:Nat,r.2=.error e∧e≠0∧v=.tuple #[.slice none 0 0,.int .i64 (e:Int)]∧aG (bV b r.1::F) h'))
theorem qm {Q:Value→Heap→Prop} (W:A.WF) (hs:A.steps+10000<1099511627776) (hd:dir.size<4611686018427387904) (H:aG (bV b A::F) h) (hQ:∀ v h',mz b (A.steps+5000) (A.tidy dir) F v h'→Q v h') :
  aE prog 123 [aM b,.string dir] h fun r4 h_4=>
  ∃ (x6:Int),∃ (x7:Int),r4=.tuple #[.int .i64 x6,.int .i64 x7]∧
  (bif (x7:Int)!=0 then
   Q (.tuple #[.slice none 0 0,.int .i64 x7]) h_4
  else
   aE prog 78 [aM b,.string dir] h_4 fun r5 h_5=>
   ∃ (x8a:Option Addr),∃ (x8l:Nat),∃ (x8c:Nat),∃ (x9:Int),r5=.tuple #[.slice x8a x8l x8c,.int .i64 x9]∧
   Q (.tuple #[.slice x8a x8l x8c,.int .i64 x9]) h_5):=by
 refine (xJ W hs hd H).mono ?_
 rintro v h1 ⟨rfl,he,W1,hs1,H1⟩
 cases hc:(A.clean dir).2 with
 | error e=>
   have e0:=he e hc;refine ⟨0,(e:Int),rfl,?_⟩;rw [aX e0,ae];have et:A.tidy dir=((A.clean dir).1,.error e):=by
    unfold AF.FS.tidy;have:A.clean dir=((A.clean dir).1,.error e):=by rw [← hc]
    rw [this]
   refine hQ _ _ ?_;rw [et];exact ⟨W1,hs1,.inr ⟨e,rfl,e0,rfl,H1⟩⟩
 | ok n=>
   refine ⟨(n:Int),0,rfl,?_⟩;rw [show ((0:Int)!=0)=false from rfl,ab];have et:A.tidy dir=((A.clean dir).1,(A.clean dir).1.list dir):=by
    unfold AF.FS.tidy;have:A.clean dir=((A.clean dir).1,.ok n):=by rw [← hc]
    rw [this]
   refine (kz W1 hd H1).mono ?_;rintro v h2 (⟨ks,a,c,hl,hright,hkl,rfl,H2⟩ | ⟨e,hl,e0,rfl,H2⟩)
   · refine ⟨a,ks.length,c,0,rfl,hQ _ _ ?_⟩;rw [et];exact ⟨W1,hs1,.inl ⟨ks,a,c,hl,hright,hkl,rfl,H2⟩⟩
   · refine ⟨none,0,0,(e:Int),rfl,hQ _ _ ?_⟩;rw [et];exact ⟨W1,hs1,.inr ⟨e,hl,e0,rfl,H2⟩⟩
theorem tX (W:A.WF) (hs:A.steps+20000<1099511627776) (hd:dir.size<4611686018427387904) (H:aG (bV b A::F) h) :
  aE prog 82 [aM b,.string dir] h (mz b (A.steps+5001) (A.prep dir) F):=by
 apply Eb.ap
 unfold IF
 have other:A.prep dir=A.tidy dir→∀ h',aG (bV b A::F) h'→aE prog 123 [aM b,.string dir] h' fun r4 h_4=>
  ∃ (x6:Int),∃ (x7:Int),r4=.tuple #[.int .i64 x6,.int .i64 x7]∧
  (bif (x7:Int)!=0 then
   mz b (A.steps+5001) (A.prep dir) F (.tuple #[.slice none 0 0,.int .i64 x7]) h_4
  else
   aE prog 78 [aM b,.string dir] h_4 fun r5 h_5=>
   ∃ (x8a:Option Addr),∃ (x8l:Nat),∃ (x8c:Nat),∃ (x9:Int),r5=.tuple #[.slice x8a x8l x8c,.int .i64 x9]∧
   mz b (A.steps+5001) (A.prep dir) F (.tuple #[.slice x8a x8l x8c,.int .i64 x9]) h_5):=by
  intro ep h' H';refine qm W (by omega) hd H' fun v h2 hl=>?_;rw [ep];exact ⟨hl.1,by have:=hl.2.1; omega,hl.2.2⟩
 refine (kz W hd H).mono ?_
 rintro v h1 (⟨ks,a,c,hl,hright,hkl,rfl,H1⟩ | ⟨e,hl,e0,rfl,H1⟩)
 · refine ⟨a,ks.length,c,0,rfl,?_⟩;rw [show ((0:Int)==61)=false from rfl,ab];exact other (by unfold AF.FS.prep; rw [hl]) h1 H1.drop
 · refine ⟨none,0,0,(e:Int),rfl,?_⟩;by_cases h61:e=61
   · subst h61;rw [show (((61:Nat):Int)==61)=true from rfl,ae];refine (uc W (by omega) hd H1).mono ?_;rintro v h2 ⟨rfl,H2⟩;rw [aL];have W2:=W.mkdir dir;have hs2:=AF.tq (A:=A) dir;by_cases he:(A.mkdir dir).2=0
     · rw [he,show (((0:Nat):Int)!=0)=false from rfl,ab];have ep:A.prep dir=(A.mkdir dir).1.tidy dir:=by
        unfold AF.FS.prep;rw [hl];simp only [he,if_true]
       refine qm W2 (by omega) hd H2 fun v h3 hl3=>?_;rw [ep];exact ⟨hl3.1,by have:=hl3.2.1; omega,hl3.2.2⟩
     · rw [aX he,ae];have ep:A.prep dir=((A.mkdir dir).1,.error (A.mkdir dir).2):=by
        unfold AF.FS.prep;rw [hl];simp only [am he]
       rw [ep];exact ⟨W2,by show (A.mkdir dir).1.steps≤_; omega,.inr ⟨_,rfl,he,rfl,H2⟩⟩
   · have:((e:Int)==61)=false:=by rw [beq_eq_false_iff_ne]; omega
     rw [this,ab];refine other ?_ h1 H1;unfold AF.FS.prep;rw [hl];split
     · rename_i he;cases he;exact absurd rfl h61
     · rfl
end
namespace Hex
def gW (k:Nat):Nat:=if k<10 then 48+k else 87+k
def eQ:Nat→Nat→List Nat
 | 0,_=>[]
 | k+1,m=>gW (m / 16^k%16)::eQ k m
theorem fm:∀ k m,(eQ k m).length=k
 | 0,_=>rfl
 | k+1,m=>by rw [eQ,ar,fm k m]
theorem tL:∀ (k m i:Nat),i<k→(eQ k m)[i]? = some (gW (m / 16^(k - 1 - i)%16))
 | 0,m,i,h=>by omega
 | k+1,m,0,h=>rfl
 | k+1,m,i+1,h=>by
   rw [eQ,List.getElem?_cons_succ,tL k m i (by omega)];congr 5;omega
theorem kP {x:Nat} (h:x<16):gW x<256:=by unfold gW; split <;> omega
theorem ig:∀ k m,B8 (eQ k m)
 | 0,_=>fun n h=>by cases h
 | k+1,m=>fun n h=>by
   rcases aA.1 h with rfl | h
   · exact kP (Nat.mod_lt _ (by omega))
   · exact ig k m n h
theorem wQ:∀ x:Fin 16,∀ y:Fin 16,(UInt8.ofNat (gW x)<UInt8.ofNat (gW y)↔x<y)∧(UInt8.ofNat (gW x)=UInt8.ofNat (gW y)↔x=y):=by decide
theorem vR:∀ (k a b:Nat),((eQ k a).map UInt8.ofNat<(eQ k b).map UInt8.ofNat)↔a%16^k<b%16^k
 | 0,a,b=>by simp [eQ,Nat.mod_one]
 | k+1,a,b=>by
   rw [eQ,eQ,map_cons,map_cons,List.cons_lt_cons_iff,vR k a b,Nat.mod_pow_succ,Nat.mod_pow_succ];have hx:a / 16^k%16<16:=Nat.mod_lt _ (by omega);have hy:b / 16^k%16<16:=Nat.mod_lt _ (by omega);have h1:=wQ ⟨_,hx⟩ ⟨_,hy⟩;simp only [Fin.mk_lt_mk,Fin.mk.injEq] at h1;rw [h1.1,h1.2];have hr:a%16^k<16^k:=Nat.mod_lt _ (Nat.pow_pos (by omega));have hs:b%16^k<16^k:=Nat.mod_lt _ (Nat.pow_pos (by omega));generalize a / 16^k%16=x at *;generalize b / 16^k%16=y at *;generalize a%16^k=r at *;generalize b%16^k=s at *;generalize 16^k=P at *
   rcases Nat.lt_trichotomy x y with h | h | h
   · have:P*(x+1)≤P*y:=Nat.mul_le_mul_left P h;rw [Nat.mul_add,Nat.mul_one] at this;constructor
     · intro _; omega
     · intro _; exact .inl h
   · subst h;constructor
     · rintro (h | ⟨_,h⟩)
       · omega
       · omega
     · intro h; exact .inr ⟨rfl,by omega⟩
   · have:P*(y+1)≤P*x:=Nat.mul_le_mul_left P h;rw [Nat.mul_add,Nat.mul_one] at this;constructor
     · rintro (h | ⟨h,_⟩) <;> omega
     · intro _; omega
theorem DG {a b:Nat} (ha:a<18446744073709551616) (hb:b<18446744073709551616):kb (dW (eQ 16 a)) (dW (eQ 16 b))=decide (a<b):=by
 rw [AF.lS]
 have h:=vR 16 a b
 rw [Nat.mod_eq_of_lt (show a<16^16 from ha),Nat.mod_eq_of_lt (show b<16^16 from hb)] at h
 unfold AF.ji
 exact decide_eq_decide.2 h
end Hex
open Hex (gW eQ)
theorem FO {a b:Nat} (ha:a<18446744073709551616) (hb:b<18446744073709551616):cf .and .u64 (a:Int) (b:Int)=((a &&& b:Nat):Int):=by
 have h:=Nat.and_lt_two_pow (n:=64) a hb
 show IntKind.u64.wrap ((BitVec.ofInt 64 (a:Int) &&& BitVec.ofInt 64 (b:Int)).toNat:Int)=_
 rw [BitVec.ofInt_natCast,BitVec.ofInt_natCast,BitVec.toNat_and,BitVec.toNat_ofNat,BitVec.toNat_ofNat,Nat.mod_eq_of_lt (show a<2^64 from ha),Nat.mod_eq_of_lt (show b<2^64 from hb)]
 exact IntWalk.u64_in _ (by omega)
theorem FQ (a:Nat):a &&& 15=a%16:=Nat.and_two_pow_sub_one_eq_mod a 4
theorem DL:∀ k:Fin 16,bt ⟨#[48,49,50,51,52,53,54,55,56,57,97,98,99,100,101,102]⟩ ((k.val:Nat):Int)=((gW k.val:Nat):Int):=by decide
section
variable {F:List aF} {h:Heap}
def lp (n:Int):Nat:=(wrap .u64 n).toNat
theorem tn (n:Int):lp n<18446744073709551616:=by unfold lp; rw [IntKind.wrap_u64]; omega
theorem tp (n:Int):wrap .u64 n=(lp n:Int):=by unfold lp; rw [IntKind.wrap_u64]; omega
theorem qF {n:Nat} (h:n<18446744073709551616):lp (n:Int)=n:=by unfold lp; rw [IntKind.wrap_u64]; omega
theorem xF {n:Int} (H:aG F h):aE prog 132 [.int .i64 n] h fun v h'=>v=.string (dW (eQ 16 (lp n)))∧aG F h':=by
 apply Ct.ap
 unfold GY
 refine aW H fun b0 h1 H1=>?_
 have hlt:=tn n
 have hne:=tp n
 generalize lp n=m at hlt hne
 rw [hne]
 have K0:aG (aQ 243 1 (some ⟨b0,0,none⟩) 16 16 ((List.replicate 16 0).map nv)::F) h1:=fe H1 (eD _) (ax _) (by decide) rfl rfl
 refine ⟨fun st hh=>∃ (i:Nat) (xs:List Nat),st=(i:Int)∧i≤16∧xs.length=16∧(∀ j,j<i→xs[j]? = (eQ 16 m)[j]?)∧aG (aQ 243 1 (some ⟨b0,0,none⟩) 16 16 (xs.map nv)::F) hh,fun st _=>(16 - st).toNat,⟨0,List.replicate 16 0,rfl,aw _,rfl,fun j hj=>by omega,K0⟩,?_⟩
 rintro st h2 ⟨i,xs,rfl,hi,hxl,hx,H2⟩
 by_cases hlt2:i<16
 · rw [ah (show ((i:Int)<16) by omega),ae];have w1:wrap .i64 (60 - wrap .i64 (4*(i:Int)))=((4*(15 - i):Nat):Int):=by
    rw [IntWalk.i64_in (4*(i:Int)) (by omega),IntWalk.i64_in _ (by omega)];omega
   rw [w1];have hb64:4*(15 - i)≤IntKind.u64.bits:=by show 4*(15 - i)≤64; omega
   rw [iz .u64 m (4*(15 - i)) hb64];have hdl:m / 2^(4*(15 - i))<18446744073709551616:=Nat.lt_of_le_of_lt (Nat.div_le_self _ _) hlt;rw [show (15:Int)=((15:Nat):Int) from rfl,FO hdl (by omega),FQ];have hpow:2^(4*(15 - i))=16^(15 - i):=by rw [Nat.pow_mul]
   rw [hpow];have hk:m / 16^(15 - i)%16<16:=Nat.mod_lt _ (by omega);have hbt:=DL ⟨_,hk⟩;simp only at hbt;rw [hbt];refine ⟨by omega,by omega,by show ((m / 16^(15 - i)%16:Nat):Int)<16; omega,by omega,by omega,?_⟩;rw [Int.toNat_natCast,Nat.mul_one,aP];refine cO (j:=i) (v:=nv (gW (m / 16^(15 - i)%16))) H2 (by rw [aq]; omega) fun h3 H3=>?_;rw [← map_set] at H3;rw [aN (by omega)];refine ⟨⟨i+1,xs.set i (gW (m / 16^(15 - i)%16)),rfl,by omega,by rw [length_set]; exact hxl,fun j hj=>?_,H3⟩,by show (16 - ((i+1:Nat):Int)).toNat<(16 - (i:Int)).toNat; omega⟩;rw [getElem?_set];by_cases hij:i=j
   · subst hij;rw [an rfl,an (by omega),Hex.tL 16 m i hlt2]
   · rw [am hij];exact hx j (by omega)
 · rw [af (by omega),ab];have e:xs=eQ 16 m:=by
    apply List.ext_getElem?;intro j;by_cases hj:j<16
    · exact hx j (by omega)
    · rw [getElem?_eq_none (by omega),getElem?_eq_none (by rw [Hex.fm]; omega)]
   subst e;exact ⟨dW (eQ 16 m),fT (aH H2) (Hex.fm 16 m) (Hex.ig 16 m),rfl,H2.drop⟩
end
namespace AF
end AF
end Go.Proofs.YtdpaiiibndnanaaGreatDoor
