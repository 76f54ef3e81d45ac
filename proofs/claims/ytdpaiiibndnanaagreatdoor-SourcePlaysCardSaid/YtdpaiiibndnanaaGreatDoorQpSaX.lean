/- Helpers out of the texts of other seats (pick.py). -/
import Derived.Test.YtdpaiiibndnanaaGreatDoorQpPzX
import Derived.Test.YtdpaiiibndnanaaGreatDoorQpSgH
import Derived.Test.YtdpaiiibndnanaaGreatDoorQpPh1
import Derived.Test.YtdpaiiibndnanaaGreatDoorQpSgA
namespace Go.Proofs.YtdpaiiibndnanaaGreatDoor
open List (mem_of_mem_take mem_of_mem_drop length_drop take_append_drop drop_zero pairwise_singleton eq_nil_of_length_eq_zero sum_append mem_cons_self getElem_mem drop_sublist length_singleton eq_nil_or_concat concat_eq_append dropLast_concat getLast?_append getLast?_singleton drop_succ_cons)
open Go Go.RowKit
open Hex (gW eQ)
set_option linter.unusedVariables false
set_option linter.unusedSimpArgs false
namespace Hex
theorem CQ:∀ (l:List Nat) (a v:Nat),uh l a=some v→v<(a+1)*16^l.length
 | [],a,v,h=>by cases h; simp
 | c::l,a,v,h=>by
   unfold uh at h
   cases hc:hv c with
   | none=>rw [hc] at h; cases h
   | some k=>
     rw [hc] at h;have h1:=CQ l _ v h;have hk:=vK hc;rw [ar,Nat.pow_succ];refine Nat.lt_of_lt_of_le h1 ?_;have e:(a+1)*(16^l.length*16)=(16*a+16)*16^l.length:=by rw [Nat.mul_comm (16^l.length) 16,← Nat.mul_assoc]; congr 1; omega
     rw [e];exact Nat.mul_le_mul_right _ (by omega)
end Hex
namespace Hex
theorem AL {c k:Nat} (h:hv c=some k):gW k=c:=by
 unfold hv at h
 unfold gW
 split at h
 · cases h;rw [an (by omega)];omega
 · split at h
   · cases h;rw [am (by omega)];omega
   · cases h
end Hex
namespace Hex
theorem xU:∀ (l:List Nat) (a v:Nat),uh l a=some v→l=eQ l.length v
 | [],a,v,h=>rfl
 | c::l,a,v,h=>by
   unfold uh at h
   cases hc:hv c with
   | none=>rw [hc] at h; cases h
   | some k=>
     rw [hc] at h;have h1:=CQ l _ v h;have h2:=xV l _ v h;have hk:=vK hc;have ih:=xU l _ v h;rw [ar,eQ,← ih];have e:v / 16^l.length=16*a+k:=by
      refine Nat.div_eq_of_lt_le ?_ ?_
      · exact h2
      · exact h1
     rw [e,show (16*a+k)%16=k by omega,AL hc]
end Hex
namespace Hex
theorem wm {s:List Nat} {v:Nat} (h:dw s=some v):s=eQ 16 v∧v<9223372036854775808:=by
 unfold dw at h
 split at h
 · rename_i hl;split at h
   · rename_i w hw;split at h
     · cases h;have:=xU _ _ _ hw;rw [hl] at this;rename_i hlt;exact ⟨this,hlt⟩
     · cases h
   · cases h
 · cases h
end Hex
namespace AF
theorem AH {dir:ByteArray} {A:FS} (W:A.WF) {ks:List ByteArray} (h:A.list dir=.ok ks):ks.Pairwise fun a b=>ji a b=true:=by
 unfold FS.list at h
 cases hr:A.ready dir [] with
 | error e=>rw [hr] at h; cases h
 | ok i=>
   rw [hr] at h;obtain ⟨_,_,_,_,d,hd,_⟩:=db hr;simp only [Except.ok.injEq] at h;rw [← h,iR hd];exact List.pairwise_map.2 (W.each d (aj hd)).ok.up
end AF
namespace AF
theorem vt {dir:ByteArray} {A:FS} (W:(A.tidy dir).1.WF) {ks:List ByteArray} (h:(A.tidy dir).2=.ok ks):ks.Pairwise fun a b=>ji a b=true:=by
 unfold FS.tidy at h W
 split at h
 · cases h
 · rename_i B n hc;rw [hc] at W;exact AH W h
end AF
namespace AF
theorem rU {dir:ByteArray} {A:FS} (W:(A.prep dir).1.WF) {ks:List ByteArray} (h:(A.prep dir).2=.ok ks):ks.Pairwise fun a b=>ji a b=true:=by
 unfold FS.prep at h W
 split at h
 · rename_i hl;rw [hl] at W;simp only at W;split at h
   · rename_i hm;rw [an hm] at W;exact vt W h
   · cases h
 · rename_i hl;refine vt (A:=A) ?_ h;revert W;split
   · rename_i hl2;exact absurd hl2 (hl)
   · exact fun W=>W
end AF
namespace AF
theorem entry_err {A:FS} {dir name:ByteArray} {e:Nat} (h:A.entry dir name=.error e):e=60∨e=61∨e=62∨e=65:=by
 unfold FS.entry FS.ready FS.named at h
 split at h
 · rename_i e2 he;split at he
   · cases he; cases h; exact .inl rfl
   · split at he
     · split at he
       · cases he
       · cases he; cases h; exact .inr (.inl rfl)
     · cases he; cases h; exact .inr (.inr (.inr rfl))
 · split at h
   · cases h
   · cases h; exact .inr (.inr (.inl rfl))
end AF
namespace AF
theorem va {A:FS} (W:A.WF) {dir name:ByteArray} {i x:Nat} (h:A.entry dir name=.ok (i,x)):(A.X x).b.length≤16777216∧B8 (A.X x).b:=by
 obtain ⟨h1,h2⟩:=kq h
 obtain ⟨_,_,_,_,d,hd,_⟩:=db h1
 rw [iR hd] at h2
 have hx:=((W.each d (aj hd)).ok.each _ (jc h2)).1
 have:=W.files _ (getElem_mem hx)
 rw [qf (ai hx)]
 exact this.2
end AF
namespace AF
theorem uR {dir:ByteArray} {A:FS} (W:A.WF) {ks:List ByteArray} (h:A.list dir=.ok ks):∀ s∈ks,right s=true:=by
 unfold FS.list at h
 cases hr:A.ready dir [] with
 | error e=>rw [hr] at h; cases h
 | ok i=>
   rw [hr] at h;obtain ⟨_,_,_,_,d,hd,_⟩:=db hr;simp only [Except.ok.injEq] at h;rw [← h,iR hd];intro s hs;obtain ⟨p,hp,rfl⟩:=List.mem_map.1 hs;exact ((W.each d (aj hd)).ok.each p hp).2
end AF
namespace AF
theorem wG {dir:ByteArray} {A:FS} {ks:List ByteArray} (h:(A.prep dir).2=.ok ks):(A.prep dir).1.list dir=.ok ks:=by
 have tidy:∀ B:FS,(B.tidy dir).2=.ok ks→(B.tidy dir).1.list dir=.ok ks:=fun B hB=>by
  unfold FS.tidy at hB ⊢;split at hB
  · cases hB
  · exact hB
 unfold FS.prep at h ⊢
 split at h
 · split at h
   · rename_i hm;rw [an hm];exact tidy _ h
   · cases h
 · exact tidy _ h
end AF
namespace AF
theorem nj {s:ByteArray} (h:right s=true):s.size≤32:=by
 unfold right at h
 simp only [ay,decide_eq_true_eq] at h
 exact h.1.2
end AF
theorem rm.of {s:ByteArray} {lo hi:Int} {u:ByteArray} {K:ByteArray→Prop} (h:rm s lo hi fun t=>t=u) (hK:K u):rm s lo hi K:=by
 obtain ⟨h1,h2,h3,h4⟩:=h
 exact ⟨h1,h2,h3,by rw [h4]; exact hK⟩
namespace AF
end AF
open Frame (bZ ck dz aY ci)
namespace AF
theorem sW:∀ (n:Nat) (x:List Nat),x.length≤n→B8 x→aY (ci x)≤x.length:=by
 intro n
 induction n with
 | zero=>
   intro x hx h8;have:x=[]:=eq_nil_of_length_eq_zero (by omega);subst this;rw [Frame.qq];exact ax _
 | succ n ih=>
   intro x hx h8;rw [Frame.fK]
   cases hf:Frame.cq x with
   | none=>exact aw _
   | some y=>
     obtain ⟨_,_,h3,_,_,_⟩:=Frame.eK h8 hf;have:=ih (x.drop (8+y.length)) (by rw [length_drop]; omega) (h8.drop _);rw [length_drop] at this;show (8+y.length)+aY (ci (x.drop (8+y.length)))≤_;omega
theorem mU {bs:List Nat} (h8:B8 bs):aY (bp bs)≤bs.length:=by
 refine Nat.le_trans ?_ (sW _ bs (ax _) h8)
 have e:=List.takeWhile_append_dropWhile (p:=fun y:List Nat=>decide (y.length≤1024)) (l:=ci bs)
 have key:∀ a b:List (List Nat),aY (a++b)=aY a+aY b:=fun a b=>by simp [aY,sum_append]
 have:=key ((ci bs).takeWhile fun y=>decide (y.length≤1024)) ((ci bs).dropWhile fun y=>decide (y.length≤1024))
 rw [e] at this
 show aY ((ci bs).takeWhile fun y=>decide (y.length≤1024))≤_
 omega
theorem nZ {A:FS} (W:A.WF) {dir name:ByteArray} {bs:List Nat} (h:A.read dir name=.ok bs):B8 bs∧bs.length≤16777216:=by
 unfold FS.read at h
 split at h
 · cases h
 · rename_i i x he;cases h;have hf:=va W he;exact ⟨hf.2,hf.1⟩
theorem sN {dir:ByteArray} {A:FS} (W:(A.tidy dir).1.WF) {ks:List ByteArray} (h:(A.tidy dir).2=.ok ks):ks.length≤4096:=by
 unfold FS.tidy at h W
 split at h
 · cases h
 · rename_i B n hc;rw [hc] at W;exact mi W h
theorem td {dir:ByteArray} {A:FS} (W:(A.prep dir).1.WF) {ks:List ByteArray} (h:(A.prep dir).2=.ok ks):ks.length≤4096:=by
 unfold FS.prep at h W
 split at h
 · rename_i hl;rw [hl] at W;simp only at W;split at h
   · rename_i hm;rw [an hm] at W;exact sN W h
   · cases h
 · rename_i hl;refine sN (A:=A) ?_ h;revert W;split
   · rename_i hl2;exact absurd hl2 (hl)
   · exact fun W=>W
end AF
namespace AF
def fq (s:ByteArray):Option Nat:=if (sb s).take 2=[115,46] then Hex.dw ((sb s).drop 2) else none
def bh (ks:List ByteArray):List Nat:=ks.filterMap fq
theorem vh {s:ByteArray} {n:Nat} (h:fq s=some n):s=cG n∧n<9223372036854775808:=by
 unfold fq at h
 split at h
 · rename_i hp;obtain ⟨e1,e2⟩:=Hex.wm h;refine ⟨?_,e2⟩;have:sb s=sb (cG n):=by
    rw [← take_append_drop 2 (sb s),hp,e1];unfold cG;rw [jr,dx (Hex.ig 16 n)]
    rfl
   exact jL this
 · cases h
theorem kw:∀ {ks:List ByteArray},ks.Pairwise (fun a b=>ji a b=true)→(bh ks).Pairwise (· < ·)∧∀ n∈bh ks,n<9223372036854775808∧cG n∈ks
 | [],_=>⟨List.Pairwise.nil,by simp [bh]⟩
 | s::ks,h=>by
   obtain ⟨h1,h2⟩:=List.pairwise_cons.1 h;obtain ⟨i1,i2⟩:=kw h2
   cases hb:fq s with
   | none=>
     have e:bh (s::ks)=bh ks:=by simp [bh,hb]
     rw [e];exact ⟨i1,fun n hn=>⟨(i2 n hn).1,aD _ (i2 n hn).2⟩⟩
   | some m=>
     have e:bh (s::ks)=m::bh ks:=by simp [bh,hb]
     obtain ⟨e1,e2⟩:=vh hb;rw [e];refine ⟨List.pairwise_cons.2 ⟨fun n hn=>?_,i1⟩,fun n hn=>?_⟩
     · obtain ⟨b1,b2⟩:=i2 n hn;have:=h1 _ b2;rw [e1,Dn (by omega) (by omega)] at this;exact of_decide_eq_true this
     · rcases aA.1 hn with rfl | hn
       · exact ⟨e2,by rw [← e1]; exact mem_cons_self ..⟩
       · exact ⟨(i2 n hn).1,aD _ (i2 n hn).2⟩
theorem iq (ks:List ByteArray):(bh ks).length≤ks.length:=List.length_filterMap_le _ _
def bX (dir:ByteArray):List Nat→FS→FS×Nat
 | [],A=>(A,0)
 | n::l,A=>if (A.remove dir (cG n)).2=0 then bX dir l (A.remove dir (cG n)).1 else A.remove dir (cG n)
def dE (dir:ByteArray) (gone:List Nat) (A:FS):FS×Nat:=
 if (bX dir gone A).2≠0 then bX dir gone A else if gone=[] then bX dir gone A else (bX dir gone A).1.syncDir dir
def aU.got (L:aU) (n:Nat) (bs:List Nat):aU:={ L with parts:=L.parts++[⟨n,(bp bs).length,aY (bp bs)⟩],fin:=L.fin+(bp bs).length }
def aU.load:List Nat→FS→aU→FS×aU×Nat
 | [],A,L=>(A,L,0)
 | n::all,A,L=>if n≠L.fin then ((dE L.dir (n::all) A).1,L,(dE L.dir (n::all) A).2) else
   match A.read L.dir (cG n) with
   | .error e=>(A,L,e)
   | .ok bs=>if aY (bp bs)<bs.length then
      (if (A.raw L.dir (cG n) (bs.take (aY (bp bs)))).2≠0 then ((A.raw L.dir (cG n) (bs.take (aY (bp bs)))).1,L.got n bs,(A.raw L.dir (cG n) (bs.take (aY (bp bs)))).2)
      else ((dE L.dir all (A.raw L.dir (cG n) (bs.take (aY (bp bs)))).1).1,L.got n bs,(dE L.dir all (A.raw L.dir (cG n) (bs.take (aY (bp bs)))).1).2))
     else aU.load all A (L.got n bs)
def qB (A:FS) (L:aU) (ks:List ByteArray):FS×Except Nat aU:=
 if (aU.load (bh ks) A L).2.2≠0 then ((aU.load (bh ks) A L).1,.error (aU.load (bh ks) A L).2.2) else
 if ((aU.load (bh ks) A L).2.1.sync (aU.load (bh ks) A L).1).2≠0 then (((aU.load (bh ks) A L).2.1.sync (aU.load (bh ks) A L).1).1,.error ((aU.load (bh ks) A L).2.1.sync (aU.load (bh ks) A L).1).2) else
 (((aU.load (bh ks) A L).2.1.sync (aU.load (bh ks) A L).1).1,.ok { (aU.load (bh ks) A L).2.1 with dur:=(aU.load (bh ks) A L).2.1.fin })
def FS.openL (A:FS) (dir:ByteArray) (size:Int):FS×Except Nat aU:=
 if size<1∨16777216<size then (A,.error 2) else
 match (A.prep dir).2 with
 | .error e=>((A.prep dir).1,.error e)
 | .ok ks=>qB (A.prep dir).1 ⟨dir,size.toNat,[],0,0⟩ ks
structure aU.Fit (k:Nat) (L:aU):Prop where
 small:L.Small k
 zero:∀ p∈L.parts,p.count=0→p.size=0
 chain:L.parts.Pairwise fun p q=>p.base+p.count≤q.base
 full:∀ p∈L.parts.dropLast,p.count≠0
 last:∀ p,L.parts.getLast? = some p→p.base+p.count=L.fin
 pos:1≤L.size
 safe:L.dur≤L.fin
section
variable {A:FS} {L:aU} {k:Nat} {b:List Nat}
theorem aU.Fit.end_le (I:L.Fit k) {p:eH} (hp:p∈L.parts):p.base+p.count≤L.fin:=by
 rcases eq_nil_or_concat L.parts with e | ⟨ps,q,e⟩
 · rw [e] at hp; cases hp
 · rw [concat_eq_append] at e;have hq:=I.last q (by rw [e]; simp);rw [e] at hp
   rcases List.mem_append.1 hp with hp | hp
   · have:=I.chain;rw [e] at this;have:=(List.pairwise_append.1 this).2.2 p hp q (by simp);omega
   · rw [List.mem_singleton.1 hp]; omega
theorem aU.Fit.up (I:L.Fit k):L.Up:=⟨fun p hp=>I.end_le hp,I.chain.imp fun {p q} h=>by omega⟩
theorem aU.Fit.none (I:L.Fit k) {p:eH} (hp:p∈L.parts) (h0:p.count=0):p.base=L.fin:=by
 rcases eq_nil_or_concat L.parts with e | ⟨ps,q,e⟩
 · rw [e] at hp; cases hp
 · rw [concat_eq_append] at e;have hq:=I.last q (by rw [e]; simp);have hf:=I.full;rw [e,dropLast_concat] at hf;rw [e] at hp
   rcases List.mem_append.1 hp with hp | hp
   · exact absurd h0 (hf p hp)
   · rw [List.mem_singleton.1 hp] at h0 ⊢; omega
theorem aU.Fit.dur (I:L.Fit k):({ L with dur:=L.fin }:aU).Fit k:=⟨⟨I.small.few,I.small.size,I.small.dir,I.small.many,I.small.fin,I.small.each⟩,I.zero,I.chain,I.full,I.last,I.pos,ax _⟩
theorem aU.Fit.grow {k':Nat} (I:L.Fit k) (hk:k≤k') (hk':k'≤100000):L.Fit k':=⟨I.small.grow hk hk',I.zero,I.chain,I.full,I.last,I.pos,I.safe⟩
theorem aU.fit0 {dir:ByteArray} {size:Nat} (hd:dir.size<4611686018427387904) (h1:1≤size) (hs:size≤16777216):aU.Fit 0 ⟨dir,size,[],0,0⟩:=
 ⟨⟨by decide,hs,hd,ax _,ax _,(fun p hp=>by cases hp)⟩,(fun p hp=>by cases hp),List.Pairwise.nil,(fun p hp=>by cases hp),(fun p hp=>by cases hp),h1,ax _⟩
theorem aU.Fit.roll (I:L.Fit k) (hf:L.full=true) (W:A.WF) (hk:k<100000):(L.roll A).2.1.Fit (k+1):=by
 have hK:=(aU.roll_keeps W I.small hk).2.2
 by_cases h1:(L.sync A).2=0
 · by_cases h2:((L.sync A).1.create L.dir (cG L.fin)).2=0
   · by_cases h3:(((L.sync A).1.create L.dir (cG L.fin)).1.syncDir L.dir).2=0
     · rw [aU.roll4 h1 h2 h3] at hK ⊢;refine ⟨hK,?_,?_,?_,?_,I.pos,ax _⟩
       · intro p hp
         rcases List.mem_append.1 hp with hp | hp
         · exact I.zero p hp
         · rw [List.mem_singleton.1 hp]; exact fun _=>rfl
       · refine List.pairwise_append.2 ⟨I.chain,pairwise_singleton _ _,fun p hp q hq=>?_⟩;rw [List.mem_singleton.1 hq];exact I.end_le hp
       · intro p hp;dsimp only at hp;rw [dropLast_concat] at hp;intro h0;have hz:=I.zero p hp h0
         rcases eq_nil_or_concat L.parts with e | ⟨ps,q,e⟩
         · rw [e] at hp; cases hp
         · rw [concat_eq_append] at e;have hfu:=I.full;rw [e,dropLast_concat] at hfu;rw [e] at hp
           rcases List.mem_append.1 hp with hp | hp
           · exact hfu p hp h0
           · rw [List.mem_singleton.1 hp] at hz;unfold aU.full at hf;rw [e,getLast?_append,getLast?_singleton] at hf;have:=of_decide_eq_true hf;have:=I.pos;omega
       · intro p hp;dsimp only at hp;rw [getLast?_append,getLast?_singleton] at hp;cases hp
         rfl
     · rw [aU.roll3 h1 h2 h3];exact I.dur.grow (Nat.le_succ k) (by omega)
   · rw [aU.roll2 h1 h2];exact I.dur.grow (Nat.le_succ k) (by omega)
 · rw [aU.roll1 h1];exact I.grow (Nat.le_succ k) (by omega)
theorem aU.Fit.put (I:L.Fit k) (W:A.WF) (hk:k<100000) (h8:B8 b) (hl:b.length≤1024):(L.put A b).2.1.Fit (k+1):=by
 have hK:=(aU.put_keeps (A:=A) W I.small hk h8 hl).2.2
 unfold aU.put at hK ⊢
 cases hp:L.parts.getLast? with
 | none=>exact I.grow (Nat.le_succ k) (by omega)
 | some p=>
   rw [hp] at hK;dsimp only at hK ⊢;have e:=iE hp;have hq:=I.last p hp;by_cases hr:(A.append L.dir (cG p.base) (bZ b)).2≠0
   · rw [an hr];exact I.grow (Nat.le_succ k) (by omega)
   · rw [am hr] at hK ⊢;refine ⟨hK,?_,?_,?_,?_,I.pos,Nat.le_succ_of_le I.safe⟩
     · intro q hq
       rcases List.mem_append.1 hq with hq | hq
       · exact I.zero q (List.dropLast_subset _ hq)
       · rw [List.mem_singleton.1 hq];intro h;exact absurd h (Nat.succ_ne_zero _)
     · have hc:=I.chain;rw [e] at hc;obtain ⟨c1,_,c3⟩:=List.pairwise_append.1 hc;refine List.pairwise_append.2 ⟨c1,pairwise_singleton _ _,fun x hx y hy=>?_⟩;rw [List.mem_singleton.1 hy];exact c3 x hx p (by simp)
     · intro q hq;dsimp only at hq;rw [dropLast_concat] at hq;exact I.full q hq
     · intro q hq;dsimp only at hq;rw [getLast?_append,getLast?_singleton] at hq;cases hq;dsimp only;omega
theorem aU.Fit.append (I:L.Fit k) (W:A.WF) (hk:k+1<100000) (h8:B8 b):(L.append A b).2.1.Fit (k+2):=by
 by_cases hl:1024<b.length
 · unfold aU.append;rw [an hl];exact I.grow (by omega) (by omega)
 · cases hf:L.full with
   | false=>
     rw [aU.append_put hl hf];exact (I.put W (by omega) h8 (by omega)).grow (by omega) (by omega)
   | true=>
     have I1:=I.roll (A:=A) hf W (by omega);by_cases he:(L.roll A).2.2=0
     · rw [aU.append_on hl hf he];exact I1.put (aU.roll_keeps W I.small (by omega)).1 (by omega) h8 (by omega)
     · rw [aU.append_roll hl hf he];exact I1.grow (by omega) (by omega)
theorem aU.Fit.synced (I:L.Fit k) (e:Nat):(L.synced e).Fit k:=by
 unfold aU.synced
 split
 · exact I.dur
 · exact I
theorem aU.Fit.got {bs:List Nat} (I:L.Fit k) (hk:k<100000) (h8:B8 bs) (hl:bs.length≤16777216) (hnew:∀ p,L.parts.getLast? = some p→p.base<L.fin):(L.got L.fin bs).Fit (k+1):=by
 have S:=I.small
 have hg:=gX h8
 have hr:=mU h8
 have hfin:=S.fin
 have hk1:k*16777216≤(k+1)*16777216:=Nat.mul_le_mul_right _ (Nat.le_succ k)
 have hk2:16777216≤(k+1)*16777216:=Nat.le_mul_of_pos_left _ (Nat.succ_pos k)
 refine ⟨⟨by omega,S.size,S.dir,?_,?_,?_⟩,?_,?_,?_,?_,I.pos,Nat.le_trans I.safe (Nat.le_add_right _ _)⟩
 · show (L.parts++[_]).length≤k+1;rw [ao,length_singleton];have:=S.many;omega
 · show L.fin+(bp bs).length≤(k+1)*16777216;omega
 · intro p hp
   rcases List.mem_append.1 hp with hp | hp
   · obtain ⟨a,b,c⟩:=S.each p hp;exact ⟨Nat.le_trans a hk1,Nat.le_trans b hk1,Nat.le_trans c hk1⟩
   · rw [List.mem_singleton.1 hp];exact ⟨Nat.le_trans hfin hk1,Nat.le_trans (show (bp bs).length≤16777216 by omega) hk2,Nat.le_trans (show aY (bp bs)≤16777216 by omega) hk2⟩
 · intro p hp
   rcases List.mem_append.1 hp with hp | hp
   · exact I.zero p hp
   · rw [List.mem_singleton.1 hp];dsimp only;intro h0;rw [List.length_eq_zero_iff.1 h0]
     rfl
 · refine List.pairwise_append.2 ⟨I.chain,pairwise_singleton _ _,fun p hp q hq=>?_⟩;rw [List.mem_singleton.1 hq];exact I.end_le hp
 · intro p hp;unfold aU.got at hp;dsimp only at hp;rw [dropLast_concat] at hp;intro h0
   rcases eq_nil_or_concat L.parts with e | ⟨ps,q,e⟩
   · rw [e] at hp; cases hp
   · rw [concat_eq_append] at e;have hfu:=I.full;rw [e,dropLast_concat] at hfu;have hlast:L.parts.getLast? = some q:=by rw [e]; simp
     rw [e] at hp
     rcases List.mem_append.1 hp with hp | hp
     · exact hfu p hp h0
     · rw [List.mem_singleton.1 hp] at h0;have h1:=hnew q hlast;have h2:=I.last q hlast;omega
 · intro p hp;unfold aU.got at hp;dsimp only at hp;rw [getLast?_append,getLast?_singleton] at hp;cases hp
   rfl
end
section
variable {A:FS} {L:aU} {b:List Nat}
theorem pi (A:FS) (dir name:ByteArray) {b:List Nat} (h8:B8 b):Gr 1 A (A.append dir name b).1:=by
 have:=mT A dir name (dW b)
 rw [dx h8] at this
 exact this
theorem aU.sync_gr:Gr 1 A (L.sync A).1:=by
 unfold aU.sync
 split
 · exact Gr.same _ _
 · exact sf _ _ _
theorem aU.roll_gr:Gr 3 A (L.roll A).1:=by
 have G1:=aU.sync_gr (A:=A) (L:=L)
 have G2:=G1.trans (kQ (L.sync A).1 L.dir (cG L.fin))
 have G3:=G2.trans (iH ((L.sync A).1.create L.dir (cG L.fin)).1 L.dir)
 by_cases h1:(L.sync A).2=0
 · by_cases h2:((L.sync A).1.create L.dir (cG L.fin)).2=0
   · by_cases h3:(((L.sync A).1.create L.dir (cG L.fin)).1.syncDir L.dir).2=0
     · rw [aU.roll4 h1 h2 h3]; exact G3
     · rw [aU.roll3 h1 h2 h3]; exact G3
   · rw [aU.roll2 h1 h2]; exact G2.le (by decide)
 · rw [aU.roll1 h1]; exact G1.le (by decide)
theorem aU.put_gr (h8:B8 b):Gr 1 A (L.put A b).1:=by
 unfold aU.put
 split
 · exact Gr.same _ _
 · dsimp only;split
   · exact pi _ _ _ (dz h8)
   · exact pi _ _ _ (dz h8)
theorem aU.append_gr (h8:B8 b):Gr 4 A (L.append A b).1:=by
 by_cases hl:1024<b.length
 · unfold aU.append;rw [an hl];exact Gr.same _ _
 · cases hf:L.full with
   | false=>
     rw [aU.append_put hl hf];exact (aU.put_gr h8).le (by decide)
   | true=>
     by_cases he:(L.roll A).2.2=0
     · rw [aU.append_on hl hf he];exact aU.roll_gr.trans (aU.put_gr h8)
     · rw [aU.append_roll hl hf he];exact aU.roll_gr.le (by decide)
end
theorem i6 (dir:ByteArray):∀ (l:List Nat) (A:FS),A.WF→(bX dir l A).1.WF∧Gr l.length A (bX dir l A).1
 | [],A,W=>⟨W,Gr.same 0 A⟩
 | n::l,A,W=>by
   unfold bX;split
   · obtain ⟨W2,G2⟩:=i6 dir l (A.remove dir (cG n)).1 (W.remove _ _);exact ⟨W2,((ip A dir (cG n)).trans G2).le (by rw [ar]; omega)⟩
   · exact ⟨W.remove _ _,(ip A dir (cG n)).le (by rw [ar]; omega)⟩
theorem py (dir:ByteArray) (l:List Nat) {A:FS} (W:A.WF):(dE dir l A).1.WF∧Gr (l.length+1) A (dE dir l A).1:=by
 obtain ⟨W1,G1⟩:=i6 dir l A W
 unfold dE
 split
 · exact ⟨W1,G1.le (by omega)⟩
 · split
   · exact ⟨W1,G1.le (by omega)⟩
   · exact ⟨W1.syncDir _,G1.trans (iH _ dir)⟩
theorem qy (dir name:ByteArray) {bs:List Nat} (h8:B8 bs) {A:FS} (W:A.WF):(A.raw dir name bs).1.WF∧Gr 6 A (A.raw dir name bs).1:=by
 have:=yB dir name (dW bs) W
 rw [dx h8] at this
 exact this
theorem n8:∀ (all:List Nat) (A:FS) (L:aU) (k:Nat),A.WF→L.Fit k→k+all.length≤100000→all.Pairwise (· < ·)→(∀ n∈all,∀ p,L.parts.getLast? = some p→p.base<n)→
  (aU.load all A L).1.WF∧Gr (all.length+8) A (aU.load all A L).1∧(aU.load all A L).2.1.Fit (k+all.length)∧(aU.load all A L).2.1.dir=L.dir
 | [],A,L,k,W,I,_,_,_=>⟨W,Gr.same _ A,I,rfl⟩
 | n::all,A,L,k,W,I,hk,hup,hnew=>by
   rw [ar] at hk ⊢;unfold aU.load;by_cases hn:n=L.fin
   · rw [am (by simpa using hn)]
     cases hr:A.read L.dir (cG n) with
     | error e=>exact ⟨W,Gr.same _ A,I.grow (by omega) hk,rfl⟩
     | ok bs=>
       obtain ⟨h8,hlen⟩:=nZ W hr;subst hn;have I1:=I.got (bs:=bs) (by omega) h8 hlen (hnew L.fin (mem_cons_self ..));have h8t:B8 (bs.take (aY (bp bs))):=fun x hx=>h8 x (mem_of_mem_take hx);obtain ⟨W1,G1⟩:=qy L.dir (cG L.fin) h8t W;dsimp only;split
       · split
         · exact ⟨W1,G1.le (by omega),I1.grow (by omega) hk,rfl⟩
         · obtain ⟨W2,G2⟩:=py L.dir all W1;exact ⟨W2,(G1.trans G2).le (by omega),I1.grow (by omega) hk,rfl⟩
       · obtain ⟨p1,p2⟩:=List.pairwise_cons.1 hup;obtain ⟨a,b,c,d⟩:=n8 all A (L.got L.fin bs) (k+1) W I1 (by omega) p2 (fun n hn p hp=>by
          unfold aU.got at hp;dsimp only at hp;rw [getLast?_append,getLast?_singleton] at hp;cases hp;exact p1 n hn)
         exact ⟨a,b.le (by omega),by rw [show k+(all.length+1)=k+1+all.length by omega]; exact c,d⟩
   · rw [an hn];obtain ⟨W2,G2⟩:=py L.dir (n::all) W;exact ⟨W2,G2.le (by rw [ar]; omega),I.grow (by omega) hk,rfl⟩
theorem oU {A:FS} {dir:ByteArray} {size:Int} (W:A.WF) (hd:dir.size<4611686018427387904):(A.openL dir size).1.WF∧Gr 9000 A (A.openL dir size).1∧∀ L,(A.openL dir size).2=.ok L→L.Fit 4096∧L.dir=dir:=by
 obtain ⟨W1,G1⟩:=qA dir W
 unfold FS.openL
 split
 · exact ⟨W,Gr.same _ A,fun L h=>by cases h⟩
 · rename_i hs
   cases hp:(A.prep dir).2 with
   | error e=>exact ⟨W1,G1.le (by omega),fun L h=>by cases h⟩
   | ok ks=>
     dsimp only;have hk:=td W1 hp;have hb:=iq ks;have hu:=(kw (rU W1 hp)).1;obtain ⟨W2,G2,I2,e2⟩:=n8 (bh ks) (A.prep dir).1 ⟨dir,size.toNat,[],0,0⟩ 0 W1 (aU.fit0 hd (by omega) (by omega)) (by omega) hu (fun n hn p hp=>by cases hp);generalize hr:aU.load (bh ks) (A.prep dir).1 ⟨dir,size.toNat,[],0,0⟩=r at W2 G2 I2 e2;have hw:=aU.sync_wf (L:=r.2.1) W2;have hg:Gr 1 r.1 (r.2.1.sync r.1).1:=aU.sync_gr;have G3:=(G1.trans G2).trans hg;unfold qB;rw [hr];split
     · exact ⟨W2,(G1.trans G2).le (by omega),fun L h=>by cases h⟩
     · split
       · exact ⟨hw,G3.le (by omega),fun L h=>by cases h⟩
       · refine ⟨hw,G3.le (by omega),fun L h=>?_⟩;cases h;exact ⟨I2.dur.grow (by omega) (by decide),e2⟩
def aU.readD (A:FS) (dir:ByteArray) (lo hi:Nat):List eH→List (List Nat)→Except Nat (List (List Nat))
 | [],out=>.ok out
 | p::ps,out=>if lo=hi∨p.base+p.count≤lo∨hi≤p.base then aU.readD A dir lo hi ps out else
   match A.read dir (cG p.base) with
   | .error e=>.error e
   | .ok bs=>if (bp bs).length<p.count then .error 70 else aU.readD A dir lo hi ps (out++((bp bs).take (min (hi - p.base) p.count)).drop (lo - p.base))
theorem oK {A:FS} {dir:ByteArray} {lo hi:Nat}:∀ (ps:List eH) (out:List (List Nat)),(lo=hi∨∀ p∈ps,hi≤p.base)→aU.readD A dir lo hi ps out=.ok out
 | [],out,_=>rfl
 | p::ps,out,h=>by
   unfold aU.readD;rw [an (by rcases h with h | h; exact .inl h; exact .inr (.inr (h p (mem_cons_self ..))))];exact oK ps out (h.imp id fun h q hq=>h q (aD _ hq))
theorem s8 {A:FS} {dir:ByteArray} {lo hi:Nat}:∀ (ps:List eH) (out:List (List Nat)),ps.Pairwise (fun p q=>p.base+p.count≤q.base)→(∀ p∈ps,p.count=0→hi≤p.base)→(∀ p∈ps,lo<p.base+p.count)→
  aU.readD A dir lo hi ps out=aU.readGo A dir lo hi ps out
 | [],out,_,_,_=>rfl
 | p::ps,out,hc,h0,hlo=>by
   obtain ⟨c1,c2⟩:=List.pairwise_cons.1 hc;have ih:=fun out=>s8 (A:=A) (dir:=dir) ps out c2 (fun q hq=>h0 q (aD _ hq)) (fun q hq=>hlo q (aD _ hq));have hlp:=hlo p (mem_cons_self ..);by_cases h1:hi≤p.base∨lo=hi
   · conv=>rhs; unfold aU.readGo
     rw [an h1];refine oK _ _ ?_
     rcases h1 with h1 | h1
     · refine .inr fun q hq=>?_
       rcases aA.1 hq with rfl | hq
       · exact h1
       · have:=c1 q hq;omega
     · exact .inl h1
   · conv=>rhs; unfold aU.readGo
     conv=>lhs; unfold aU.readD
     have hne:¬ p.count=0:=fun e=>by
      have:=h0 p (mem_cons_self ..) e;omega
     rw [am h1,am hne,am (by omega)]
     cases A.read dir (cG p.base) with
     | error e=>rfl
     | ok bs=>
       dsimp only;split
       · rfl
       · exact ih _
theorem oL {A:FS} {dir:ByteArray} {lo hi:Nat}:∀ (ps:List eH) (out:List (List Nat)),aU.readD A dir lo hi ps out=aU.readD A dir lo hi (ps.drop (ps.findIdx fun p=>decide (lo<p.base+p.count))) out
 | [],out=>rfl
 | p::ps,out=>by
   rw [List.findIdx_cons];by_cases h:lo<p.base+p.count
   · rw [ah h]
     rfl
   · rw [af h];simp only [ab,drop_succ_cons]
     conv=>lhs; unfold aU.readD
     rw [an (.inr (.inl (by omega)))];exact oL ps out
theorem q8 {lo:Nat}:∀ (ps:List eH),ps.Pairwise (fun p q=>p.base+p.count≤q.base)→∀ p∈ps.drop (ps.findIdx fun p=>decide (lo<p.base+p.count)),lo<p.base+p.count
 | [],_,p,hp=>by cases hp
 | q::ps,hc,p,hp=>by
   obtain ⟨c1,c2⟩:=List.pairwise_cons.1 hc;rw [List.findIdx_cons] at hp;by_cases h:lo<q.base+q.count
   · rw [ah h] at hp;simp only [ae,drop_zero] at hp
     rcases aA.1 hp with rfl | hp
     · exact h
     · have:=c1 p hp;omega
   · rw [af h] at hp;simp only [ab,drop_succ_cons] at hp;exact q8 ps c2 p hp
theorem aU.Fit.read {A:FS} {L:aU} {k:Nat} (I:L.Fit k) (lo hi:Int):L.read A lo hi=if lo<0∨hi<lo∨(L.fin:Int)<hi then .error 101 else aU.readD A L.dir lo.toNat hi.toNat L.parts []:=by
 unfold aU.read
 split
 · rfl
 · rw [oL];unfold aU.from_;refine (s8 _ _ ?_ ?_ ?_).symm
   · exact I.chain.sublist (drop_sublist _ _)
   · intro p hp h0;have:=I.none (mem_of_mem_drop hp) h0;omega
   · exact q8 L.parts I.chain
end AF
end Go.Proofs.YtdpaiiibndnanaaGreatDoor
