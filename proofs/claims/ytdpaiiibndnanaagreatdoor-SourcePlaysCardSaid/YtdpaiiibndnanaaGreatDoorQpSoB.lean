/- The document's log: Append. -/
import Derived.Test.YtdpaiiibndnanaaGreatDoorQpSoA
namespace Go.Proofs.YtdpaiiibndnanaaGreatDoor
open Go.Builtin (append_)
open Go.IntKind (wrap)
open Go.Proofs.Tryz (prog)
open List (length_singleton dropLast_concat getLast?_append getLast?_singleton mem_of_getLast?)
open Go Go.RowKit
set_option linter.unusedVariables false
set_option linter.unusedSimpArgs false
open AF (aU cG Gr)
open Frame (aY bZ ck dz)
def vz (l_0:Option Addr) (s0:ByteArray) (h:Heap) (Q:Value→Heap→Prop):Prop:=
 aE prog 97 [.string s0] h fun r26 h_34=>
  ∃ (x63:ByteArray),∃ (x64:Int),r26=.tuple #[.string x63,.int .i64 x64]∧
  aR l_0 fun a61=>
  Ld h_34 (a61.add 3) fun v53=>aZ v53 fun x65a x65l x65c=>
  aR l_0 fun a62=>
  Ld h_34 (a62.add 0) fun v54=>DP v54 fun x66=>
  aR l_0 fun a63=>
  Ld h_34 (a63.add 1) fun v55=>DS v55 fun x67=>
  aR l_0 fun a64=>
  Ld h_34 (a64.add 3) fun v56=>aZ v56 fun x68a x68l x68c=>
  aO x68a x68l (wrap .i64 ((x65l:Int) - 1)) 3 fun a65=>
  Ld h_34 (a65.add 0) fun v57=>DI .i64 v57 fun x69=>
  aE prog 96 [.int .i64 x69] h_34 fun r27 h_35=>
  DS r27 fun x70=>
  (aJ (some (.pointer l_0)) (.pointer l_0))∧
  (aR l_0 fun a66=>
  aJ (some (.pointer (some a62))) (.pointer (some a66)))∧
  (aJ (some (.pointer (some (a62.add 0)))) (.pointer (some (a62.add 0))))∧
  (Ld h_35 (a62.add 0) fun v58=>DP v58 fun x71=>
  aJ (some (.pointer x66)) (.pointer x71))∧
  (aJ (some (.pointer l_0)) (.pointer l_0))∧
  (aR l_0 fun a67=>
  aJ (some (.pointer (some a63))) (.pointer (some a67)))∧
  (aJ (some (.pointer (some (a63.add 1)))) (.pointer (some (a63.add 1))))∧
  (Ld h_35 (a63.add 1) fun v59=>DS v59 fun x72=>
  aJ (some (.string x67)) (.string x72))∧
  (aJ (some (.string x63)) (.string x63))∧
  aE prog 63 [.pointer x66,.string x67,.string x70,.string x63] h_35 fun r28 h_36=>
  DI .i64 r28 fun e8=>
  (bif (e8:Int)!=0 then
   Q (.tuple #[.int .i64 0,.int .i64 e8]) h_36
  else
   aR l_0 fun a68=>
   Ld h_36 (a68.add 3) fun v60=>aZ v60 fun x73a x73l x73c=>
   aO x73a x73l (wrap .i64 ((x65l:Int) - 1)) 3 fun a69=>
   Ld h_36 (a69.add 1) fun v61=>DI .i64 v61 fun x74=>
   aO x73a x73l (wrap .i64 ((x65l:Int) - 1)) 3 fun a70=>
   bN h_36 ((a70.add 1).add 0) (.int .i64 (wrap .i64 (x74+1))) fun h_38=>
   aR l_0 fun a71=>
   Ld h_38 (a71.add 3) fun v62=>aZ v62 fun x75a x75l x75c=>
   aR l_0 fun a72=>
   Ld h_38 (a72.add 3) fun v63=>aZ v63 fun x76a x76l x76c=>
   aO x76a x76l (wrap .i64 ((x65l:Int) - 1)) 3 fun a73=>
   Ld h_38 (a73.add 2) fun v64=>DI .i64 v64 fun x77=>
   aO x75a x75l (wrap .i64 ((x65l:Int) - 1)) 3 fun a74=>
   bN h_38 ((a74.add 2).add 0) (.int .i64 (wrap .i64 (x77+((x63:ByteArray).size:Int)))) fun h_40=>
   aR l_0 fun a75=>
   Ld h_40 (a75.add 4) fun v65=>DI .i64 v65 fun x78=>
   aR l_0 fun a76=>
   bN h_40 ((a76.add 4).add 0) (.int .i64 (wrap .i64 (x78+1))) fun h_42=>
   aR l_0 fun a77=>
   Ld h_42 (a77.add 4) fun v66=>DI .i64 v66 fun x79=>
   Q (.tuple #[.int .i64 (wrap .i64 (x79 - 1)),.int .i64 0]) h_42)
def uB (l_0:Option Addr) (s0:ByteArray) (h:Heap) (Q:Value→Heap→Prop):Prop:=
 aE prog 46 [.pointer l_0] h fun r0 h_0=>
  DI .i64 r0 fun e0=>
  (bif (e0:Int)!=0 then
   Q (.tuple #[.int .i64 0,.int .i64 e0]) h_0
  else
   aR l_0 fun a1=>
   Ld h_0 (a1.add 0) fun v1=>DP v1 fun x1=>
   aR l_0 fun a2=>
   Ld h_0 (a2.add 1) fun v2=>DS v2 fun x2=>
   aR l_0 fun a3=>
   Ld h_0 (a3.add 4) fun v3=>DI .i64 v3 fun x3=>
   aE prog 96 [.int .i64 x3] h_0 fun r1 h_1=>
   DS r1 fun x4=>
   (aJ (some (.pointer l_0)) (.pointer l_0))∧
   (aR l_0 fun a4=>
   aJ (some (.pointer (some a1))) (.pointer (some a4)))∧
   (aJ (some (.pointer (some (a1.add 0)))) (.pointer (some (a1.add 0))))∧
   (Ld h_1 (a1.add 0) fun v4=>DP v4 fun x5=>
   aJ (some (.pointer x1)) (.pointer x5))∧
   (aJ (some (.pointer l_0)) (.pointer l_0))∧
   (aR l_0 fun a5=>
   aJ (some (.pointer (some a2))) (.pointer (some a5)))∧
   (aJ (some (.pointer (some (a2.add 1)))) (.pointer (some (a2.add 1))))∧
   (Ld h_1 (a2.add 1) fun v5=>DS v5 fun x6=>
   aJ (some (.string x2)) (.string x6))∧
   aE prog 62 [.pointer x1,.string x2,.string x4] h_1 fun r2 h_2=>
   DI .i64 r2 fun e1=>
   (bif (e1:Int)!=0 then
    Q (.tuple #[.int .i64 0,.int .i64 e1]) h_2
   else
    aR l_0 fun a6=>
    Ld h_2 (a6.add 0) fun v6=>DP v6 fun x7=>
    aR l_0 fun a7=>
    Ld h_2 (a7.add 1) fun v7=>DS v7 fun x8=>
    aE prog 65 [.pointer x7,.string x8] h_2 fun r3 h_3=>
    DI .i64 r3 fun e2=>
    (bif (e2:Int)!=0 then
     Q (.tuple #[.int .i64 0,.int .i64 e2]) h_3
    else
     aR l_0 fun a8=>
     Ld h_3 (a8.add 3) fun v8=>aZ v8 fun x9a x9l x9c=>
     aR l_0 fun a9=>
     Ld h_3 (a9.add 4) fun v9=>DI .i64 v9 fun x10=>
     Al h_3 (.cells #[.int .i64 x10,.int .i64 0,.int .i64 0] 168) fun b0 h_4=>
     (aJ (some (.pointer l_0)) (.pointer l_0))∧
     (aJ (some (.pointer l_0)) (.pointer l_0))∧
     (aR l_0 fun a10=>
     aJ (some (.pointer (some a8))) (.pointer (some a10)))∧
     (aJ (some (.pointer (some (a8.add 3)))) (.pointer (some (a8.add 3))))∧
     (Ld h_4 (a8.add 3) fun v10=>aZ v10 fun x11a x11l x11c=>
     aJ (some (.slice x9a x9l x9c)) (.slice x11a x11l x11c))∧
     bB prog (append_ #[119,119] 119 #[.slice x9a x9l x9c,.slice (some (Addr.mk b0 0 none)) 1 1]) h_4 fun r5 h_5=>
     aZ r5 fun x12a x12l x12c=>
     (aJ (some (.pointer l_0)) (.pointer l_0))∧
     aR l_0 fun a11=>
     bN h_5 ((a11.add 3).add 0) (.slice x12a x12l x12c) fun h_7=>
     vz l_0 s0 h_7 Q)))
section
variable {r m:Nat} {L:aU} {A:AF.FS} {F:List aF} {h:Heap} {k:Nat}
set_option maxHeartbeats 1000000 in
theorem oO {s:ByteArray} {Q:Value→Heap→Prop} (W:A.WF) (hs:A.steps<1099511627776) (S:L.Small k) (hp0:L.parts≠[]) (hl:s.size≤1024) (H:aG (eI r m L::bd m A::F) h)
  (hQ:∀ h',aG (eI r m (L.put A (sb s)).2.1::bd m (L.put A (sb s)).1::F) h'→Q (gJ (L.put A (sb s)).2.2) h'):vz (some ⟨r,0,none⟩) s h Q:=by
 unfold vz
 simp only [aK]
 have h8:=gv s
 have hsl:=bE s
 have hmany:=S.many
 have hfew:=S.few
 have hfin:=S.fin
 obtain ⟨p,hp⟩:∃ p,L.parts.getLast? = some p:=by
  cases he:L.parts.getLast? with
  | none=>exact absurd (List.getLast?_eq_none_iff.1 he) hp0
  | some p=>exact ⟨p,rfl⟩
 have hsplit:=iE hp
 obtain ⟨hbase,hcount,hsize⟩:=S.each p (mem_of_getLast? hp)
 refine (tU H (by omega)).mono ?_
 rintro v h1 ⟨rfl,H1⟩
 refine ⟨_,0,rfl,?_⟩
 obtain ⟨a,c,H2⟩:=fX H1
 refine bH (a:=a) (l:=L.parts.length) (m:=c) H2 rfl ?_
 refine dK H2 rfl ?_
 refine bz H2 rfl ?_
 refine bH (a:=a) (l:=L.parts.length) (m:=c) H2 rfl ?_
 refine jQ (aH (H2.mv 1)) rfl hp (by omega) fun b hb c0 _ _=>nX c0 ?_
 refine (iP (n:=p.base) (by omega) H2).mono ?_
 rintro v h2 ⟨rfl,H3⟩
 rw [aT]
 refine ⟨rfl,rfl,rfl,dK H3 rfl rfl,rfl,rfl,rfl,bz H3 rfl rfl,rfl,?_⟩
 have e8:sb (dW (bZ (sb s)))=bZ (sb s):=dx (dz h8)
 have ez:(dW (bZ (sb s))).size=8+s.size:=by rw [dC (dz h8),ck,hsl]
 refine (pN (dir:=L.dir) (name:=cG p.base) (s:=dW (bZ (sb s))) W hs (by rw [ez]; omega) (H3.mv 2)).mono ?_
 rw [e8]
 rintro v h3 ⟨rfl,H4⟩
 rw [aL]
 have H5:=H4.ordT 3 [1,2,0]
 by_cases he:(A.append L.dir (cG p.base) (bZ (sb s))).2=0
 rotate_left
 · rw [aX he,ae];have e:L.put A (sb s)=((A.append L.dir (cG p.base) (bZ (sb s))).1,L,.error (A.append L.dir (cG p.base) (bZ (sb s))).2):=by
    unfold AF.aU.put;rw [hp];dsimp only;rw [an he]
   rw [e] at hQ;exact hQ _ (cK H5)
 rw [he,show (((0:Nat):Int)!=0)=false from rfl,ab]
 have e:L.put A (sb s)=((A.append L.dir (cG p.base) (bZ (sb s))).1,{ L with parts:=L.parts.dropLast++[⟨p.base,p.count+1,p.size+(8+(sb s).length)⟩],fin:=L.fin+1 },.ok L.fin):=by
  unfold AF.aU.put;rw [hp];dsimp only;rw [am (fun hh=>hh he)]
 rw [e] at hQ
 have plen:L.parts.length=L.parts.dropLast.length+1:=by
  conv=>lhs; rw [hsplit]
  simp
 have hpc:(bA L.parts).length=L.parts.length*3:=cX _
 refine bH (a:=a) (l:=L.parts.length) (m:=c) H5 rfl ?_
 refine jQ (aH (H5.mv 1)) rfl hp (by omega) fun b1 hb1 _ c1 _=>nX c1 ?_
 refine jQ (aH (H5.mv 1)) rfl hp (by omega) fun b2 hb2 _ _ _=>?_
 subst hb2
 rw [aP,bm,IntWalk.i64_in _ (by omega)]
 refine cO (H5.mv 1) (by rw [hpc]; omega) fun h5 H6=>?_
 have es1:(bA L.parts).set (L.parts.dropLast.length*3+1) (.int .i64 ((p.count:Int)+1))=bA (L.parts.dropLast++[⟨p.base,p.count+1,p.size⟩]):=by
  have h0:=nu L.parts.dropLast p;rw [← hsplit] at h0;exact h0
 rw [es1] at H6
 have H7:=H6.ordT 2 [1,0]
 refine bH (a:=some b2) (l:=L.parts.length) (m:=c) H7 rfl ?_
 refine bH (a:=some b2) (l:=L.parts.length) (m:=c) H7 rfl ?_
 have hr1:=aH (H7.mv 1)
 have hp1:(L.parts.dropLast++[⟨p.base,p.count+1,p.size⟩]:List AF.eH).getLast? = some ⟨p.base,p.count+1,p.size⟩:=by rw [getLast?_append,getLast?_singleton]; rfl
 have hl1:(L.parts.dropLast++[⟨p.base,p.count+1,p.size⟩]:List AF.eH).length=L.parts.length:=by rw [ao,plen]; rfl
 have hd1:(L.parts.dropLast++[⟨p.base,p.count+1,p.size⟩]:List AF.eH).dropLast=L.parts.dropLast:=dropLast_concat
 refine jQ (L:={ L with parts:=L.parts.dropLast++[⟨p.base,p.count+1,p.size⟩] }) hr1 hl1 hp1 (by omega) fun b3 hb3 _ _ c2=>nX c2 ?_
 refine jQ (L:={ L with parts:=L.parts.dropLast++[⟨p.base,p.count+1,p.size⟩] }) hr1 hl1 hp1 (by omega) fun b4 hb4 _ _ _=>?_
 cases hb4
 dsimp only
 rw [hd1,aP,bm,ez,IntWalk.i64_in _ (by omega)]
 refine cO (H7.mv 1) (by rw [cX,hl1]; omega) fun h6 H8=>?_
 have es2:(bA (L.parts.dropLast++[⟨p.base,p.count+1,p.size⟩])).set (L.parts.dropLast.length*3+2) (.int .i64 ((p.size:Int)+((8+s.size:Nat):Int)))=bA (L.parts.dropLast++[⟨p.base,p.count+1,p.size+(8+(sb s).length)⟩]):=by
  have:=ma L.parts.dropLast ⟨p.base,p.count+1,p.size⟩ (p.size+(8+(sb s).length));rw [hsl] at this ⊢;rw [← this];congr 2
 rw [es2] at H8
 have H9:=H8.ordT 2 [1,0]
 refine bM (x:=(L.fin:Int)) H9 rfl ?_
 rw [IntWalk.i64_in _ (by omega)]
 have hl2:(L.parts.dropLast++[⟨p.base,p.count+1,p.size+(8+(sb s).length)⟩]:List AF.eH).length=L.parts.length:=by rw [ao,plen]; rfl
 refine ct (c':=eJ m { L with parts:=L.parts.dropLast++[⟨p.base,p.count+1,p.size+(8+(sb s).length)⟩],fin:=L.fin+1 } (some b2) c) H9 (by show 4<6; decide) (by simp only [eJ,hl2]; rfl) fun h7 H10=>?_
 refine bM (x:=((L.fin+1:Nat):Int)) H10 rfl ?_
 rw [IntWalk.i64_in _ (by omega),show (((L.fin+1:Nat):Int) - 1)=(L.fin:Int) by omega]
 refine hQ _ (cK (a:=some b2) (c:=c) ?_)
 dsimp only
 rw [hl2]
 exact H10
set_option maxHeartbeats 1000000 in
theorem sX {s:ByteArray} {Q:Value→Heap→Prop} (W:A.WF) (hs:A.steps+4<1099511627776) (hfs:A.files.length+4<1099511627776) (S:L.Small k) (hk:k<100000) (hl:s.size≤1024) (H:aG (eI r m L::bd m A::F) h)
  (hE:(L.roll A).2.2≠0→∀ h',aG (eI r m (L.roll A).2.1::bd m (L.roll A).1::F) h'→Q (.tuple #[.int .i64 0,.int .i64 ((L.roll A).2.2:Int)]) h')
  (hQ:(L.roll A).2.2=0→∀ h',aG (eI r m ((L.roll A).2.1.put (L.roll A).1 (sb s)).2.1::bd m ((L.roll A).2.1.put (L.roll A).1 (sb s)).1::F) h'→Q (gJ ((L.roll A).2.1.put (L.roll A).1 (sb s)).2.2) h') :
  uB (some ⟨r,0,none⟩) s h Q:=by
 unfold uB
 simp only [aK]
 have hK:=AF.aU.roll_keeps W S hk
 have hG:=AF.aU.roll_gr (A:=A) (L:=L)
 refine (pS W (by omega) S H).mono ?_
 rintro v h0 ⟨rfl,H0⟩
 rw [aL]
 have W1:=AF.aU.sync_wf (L:=L) W
 have s1:=(AF.aU.sync_gr (L:=L) (A:=A)).1
 have f1:=(AF.aU.sync_gr (L:=L) (A:=A)).2
 have hm:=S.many
 have hf:=S.fin
 by_cases e1:(L.sync A).2=0
 rotate_left
 · rw [AF.aU.synced,am e1] at H0;rw [aX e1,ae];rw [AF.aU.roll1 e1] at hE;exact hE e1 _ H0
 rw [e1,AF.aU.synced,an rfl] at H0
 rw [e1,show (((0:Nat):Int)!=0)=false from rfl,ab]
 obtain ⟨a,c,H1⟩:=fX H0
 refine dK H1 rfl ?_
 refine bz H1 rfl ?_
 refine bM (x:=(L.fin:Int)) H1 rfl ?_
 refine (iP (n:=L.fin) (by omega) H1).mono ?_
 rintro v h2 ⟨rfl,H2⟩
 rw [aT]
 refine ⟨rfl,rfl,rfl,dK H2 rfl rfl,rfl,rfl,rfl,bz H2 rfl rfl,?_⟩
 refine (pO (dir:=L.dir) (name:=cG L.fin) W1 (by omega) (by omega) (H2.mv 2)).mono ?_
 rintro v h3 ⟨rfl,H3⟩
 rw [aL]
 have W2:=W1.create L.dir (cG L.fin)
 have g2:=AF.kQ (L.sync A).1 L.dir (cG L.fin)
 have s2:=g2.1
 by_cases e2:((L.sync A).1.create L.dir (cG L.fin)).2=0
 rotate_left
 · rw [aX e2,ae];rw [AF.aU.roll2 e1 e2] at hE;exact hE e2 _ (cK (L:={ L with dur:=L.fin }) (H3.ordT 3 [1,2,0]))
 rw [e2,show (((0:Nat):Int)!=0)=false from rfl,ab]
 have H4:=H3.ordT 3 [1,2,0]
 refine dK H4 rfl ?_
 refine bz H4 rfl ?_
 refine (kA (dir:=L.dir) W2 (by omega) H3).mono ?_
 rintro v h4 ⟨rfl,H5⟩
 rw [aL]
 by_cases e3:(((L.sync A).1.create L.dir (cG L.fin)).1.syncDir L.dir).2=0
 rotate_left
 · rw [aX e3,ae];rw [AF.aU.roll3 e1 e2 e3] at hE;exact hE e3 _ (cK (L:={ L with dur:=L.fin }) (H5.ordT 3 [1,2,0]))
 rw [e3,show (((0:Nat):Int)!=0)=false from rfl,ab]
 rw [AF.aU.roll4 e1 e2 e3] at hQ hK hG
 have H6:=H5.ordT 3 [1,2,0]
 refine bH (a:=a) (l:=L.parts.length) (m:=c) H6 rfl ?_
 refine bM (x:=(L.fin:Int)) H6 rfl ?_
 refine aW H6 fun b0 h5 H7=>?_
 refine ⟨rfl,rfl,rfl,rfl,bH (a:=a) (l:=L.parts.length) (m:=c) (H7.mv 1) rfl rfl,?_⟩
 have hr:cv h5 (some ⟨b0,0,none⟩) (bA [⟨L.fin,0,0⟩]):=ge H7 rfl
 refine gP Im Ir CZ (H7.mv 2) (n:=1) (bJ hr rfl) (by intro u hu; simp [bA] at hu; rcases hu with rfl | rfl <;> rfl) (by omega) fun a' c' h6 _ H8=>?_
 rw [aI]
 refine ⟨rfl,?_⟩
 have H9:=H8.ordT 4 [2,0,3]
 rw [aP]
 refine ct (c':=eJ m { L with dur:=L.fin,parts:=L.parts++[⟨L.fin,0,0⟩] } a' c') H9 (by show 3<6; decide) (by simp only [eJ,ao,length_singleton]; rfl) fun h7 H10=>?_
 refine oO (L:={ L with dur:=L.fin,parts:=L.parts++[⟨L.fin,0,0⟩] }) hK.1 (by have:=hG.1; dsimp only at this; omega) hK.2.2 (by simp) hl ?_ (hQ rfl)
 refine cK (a:=a') (c:=c') ?_
 rw [← dt] at H10
 rw [show ({ L with dur:=L.fin,parts:=L.parts++[⟨L.fin,0,0⟩] }:AF.aU).parts=L.parts++[⟨L.fin,0,0⟩] from rfl,ao,length_singleton]
 exact H10
set_option maxHeartbeats 1000000 in
theorem zJ {s:ByteArray} (W:A.WF) (hs:A.steps+4<1099511627776) (hfs:A.files.length+4<1099511627776) (S:L.Small k) (hk:k<100000) (H:aG (eI r m L::bd m A::F) h) :
  aE prog 45 [aM r,.string s] h fun v h'=>v=gJ (L.append A (sb s)).2.2∧aG (eI r m (L.append A (sb s)).2.1::bd m (L.append A (sb s)).1::F) h':=by
 apply Ev.ap
 unfold I6
 have hsl:=bE s
 have hmany:=S.many
 have hfew:=S.few
 by_cases hbig:s.size>1024
 · rw [ah (by omega),ae];have e:L.append A (sb s)=(A,L,.error 100):=by unfold AF.aU.append; rw [an (by omega)]
   rw [e];exact ⟨rfl,H⟩
 rw [af (by omega),ab,aK]
 obtain ⟨a,c,H1⟩:=fX H
 refine bH (a:=a) (l:=L.parts.length) (m:=c) H1 rfl ?_
 have hb:¬ 1024<(sb s).length:=by omega
 have roll:L.full=true→uB (some ⟨r,0,none⟩) s h (fun v h'=>v=gJ (L.append A (sb s)).2.2∧aG (eI r m (L.append A (sb s)).2.1::bd m (L.append A (sb s)).1::F) h'):=fun hf=>by
  refine sX (L:=L) (A:=A) (F:=F) (m:=m) W hs hfs S hk (by omega) H (fun he h' H'=>?_) (fun he h' H'=>?_)
  · rw [AF.aU.append_roll hb hf he];exact ⟨rfl,H'⟩
  · rw [AF.aU.append_on hb hf he];exact ⟨rfl,H'⟩
 cases hp:L.parts.getLast? with
 | none=>
   have e0:L.parts=[]:=List.getLast?_eq_none_iff.1 hp;rw [show (((L.parts.length:Nat):Int)==0)=true from by rw [e0]; rfl,ae];exact roll (by unfold AF.aU.full; rw [hp])
 | some p=>
   have hne:L.parts≠[]:=fun e=>by rw [e] at hp; cases hp
   have hpos:0<L.parts.length:=List.length_pos_iff.2 hne;rw [show (((L.parts.length:Nat):Int)==0)=false from by rw [beq_eq_false_iff_ne]; omega,ab,aK];refine bH (a:=a) (l:=L.parts.length) (m:=c) H1 rfl ?_;rw [aK];refine bH (a:=a) (l:=L.parts.length) (m:=c) H1 rfl ?_;refine jQ (aH (H1.mv 1)) rfl hp (by omega) fun b hb _ _ c2=>nX c2 ?_;rw [aK];refine bM (x:=(L.size:Int)) H1 rfl ?_;by_cases hf:L.size≤p.size
   · rw [ah (show ((p.size:Int)≥(L.size:Int)) by omega),ae];exact roll (by unfold AF.aU.full; rw [hp]; exact ah hf)
   · rw [af (show ¬ ((p.size:Int)≥(L.size:Int)) by omega),ab];have hf2:L.full=false:=by unfold AF.aU.full; rw [hp]; exact af hf
     have K:vz (some ⟨r,0,none⟩) s h (fun v h'=>v=gJ (L.append A (sb s)).2.2∧aG (eI r m (L.append A (sb s)).2.1::bd m (L.append A (sb s)).1::F) h'):=by
      refine oO (L:=L) (A:=A) (F:=F) (m:=m) W (by omega) S hne (by omega) H fun h' H'=>?_;rw [AF.aU.append_put (by omega) hf2];exact ⟨rfl,H'⟩
     exact K
end
end Go.Proofs.YtdpaiiibndnanaaGreatDoor
