/- Spoilt and planted files,as plain data. The program's file system: Room,Spoil,Plant. The document's file system in memory: of the same plain data. The document's file system: names,places,entries more and fewer. The document's file system: entries fewer and more,an operation among entries,a pick. The document's file system: a pending operation,done at once. The document's file system: the walk of a pending operation. The document's file system: what is used,read,listed; the plain calls. The document's file system: Read,List,Append,Sync,SyncDir,Create,Rename,Remove. The document's file system: SyncDir,Create,Rename,Remove. The document's file system: Mkdir. The document's file system: Spoil,Plant. The document's file system: Plant. The document's file system: Crash. The document's file system: Crash,the walk. Any call of both file systems. FsPlays: what both show; the law. -/
import Derived.Test.YtdpaiiibndnanaaGreatDoorQpPlA
import Derived.Test.YtdpaiiibndnanaaGreatDoorQpFpA
import Derived.Test.YtdpaiiibndnanaaGreatDoorQpSgH
import Derived.Test.YtdpaiiibndnanaaGreatDoorQpFsE
import Derived.Test.YtdpaiiibndnanaaGreatDoorQpTg
namespace Go.Proofs.YtdpaiiibndnanaaGreatDoor
open Go.Builtin (append_)
open Go.IntKind (wrap)
open Go.Proofs.Tryz (prog)
open List (getD_eq_getElem?_getD length_drop append_assoc take_append_drop map_append map_take map_cons map_congr_left nil_append cons_append map_map length_filter_le mem_singleton append_nil nodup_cons find?_eq_none flatMap_cons getElem?_of_mem flatMap_append length_modify findIdx?_eq_none_iff findIdx?_eq_some_iff_getElem zipWith getElem?_zipWith getElem?_set sum_append zipWith_cons_cons drop_eq_getElem_cons take_length length_zipWith map_set length_set all_cons drop_sublist length_singleton zip_eq_zipWith set_set)
namespace AF
set_option linter.unusedVariables false
set_option linter.unusedSimpArgs false
def FS.spoil (f:FS) (dir name:ByteArray) (at_:Int) (turn:Nat):FS×Nat:=match f.named dir [name] with
 | .error e=>(f,e)
 | .ok i=>match of (f.D i).now name with
   | none=>(f,62)
   | some x=>if at_<0∨((f.X x).b.length:Int)≤at_ then (f,2) else (f.setFile x fun y=>{ y with b:=y.b.modify at_.toNat (· ^^^ turn) },0)
def FS.planted (f:FS) (i:Nat) (name:ByteArray) (b:List Nat):FS:=
 FS.setDir { f with files:=f.files++[⟨b,b.length⟩] } i fun d=>{ d with now:=ins name f.files.length d.now,base:=ins name f.files.length d.now,pend:=[] }
def FS.plant (f:FS) (dir name:ByteArray) (b:List Nat):FS×Nat:=match f.named dir [name] with
 | .error e=>(f,e)
 | .ok i=>if 16777216<b.length then (f,67) else if (of (f.D i).now name).isNone∧4096≤(f.D i).now.length then (f,66) else (f.planted i name b,0)
theorem mh {f:FS} {dir:ByteArray} {ss:List ByteArray} {i:Nat} (h:f.named dir ss=.ok i):right dir=true∧(∀ s∈ss,right s=true)∧∃ d,f.dirs[i]? = some d∧d.name=dir:=by
 unfold FS.named at h
 split at h
 · rename_i hr;rw [ay,List.all_eq_true] at hr;split at h
   · rename_i j hj;cases h;exact ⟨hr.1,hr.2,oe hj⟩
   · cases h
 · cases h
theorem qH {f:FS} {dir:ByteArray} {ss:List ByteArray} {e:Nat} (h:f.named dir ss=.error e):e≠0:=by
 unfold FS.named at h
 split at h
 · split at h
   · cases h
   · cases h; decide
 · cases h; decide
theorem FS.WF.spoil {f:FS} (h:f.WF) (dir name:ByteArray) (at_:Int) {turn:Nat} (ht:turn<256):(f.spoil dir name at_ turn).1.WF:=by
 unfold FS.spoil
 split
 · exact h
 · split
   · exact h
   · split
     · exact h
     · refine h.setFile fun y hy=>?_;obtain ⟨h1,h2,h3⟩:=h.files y (aj hy);refine ⟨by rw [length_modify]; exact h1,by rw [length_modify]; exact h2,fun n hn=>?_⟩
       rcases gF hn with hn | ⟨d,hd,rfl⟩
       · exact h3 n hn
       · exact Nat.xor_lt_two_pow (n:=8) (h3 d (aj hd)) ht
theorem Ok.ins2 {n:Nat} {l:bG} (h:Ok n l) {a:ByteArray} {f:Nat} (ha:right a=true) (hf:f<n) (hn:f∉l.map (·.2)) (hl:(of l a).isSome=true∨l.length<4096):Ok n (AF.ins a f l):=by
 have hp:=iG (n:=a) (f:=f) h.up
 refine ⟨uV h.up,fun p hm=>?_,?_,?_⟩
 · rcases aA.1 (hp.mem_iff.1 hm) with rfl | hm
   · exact ⟨hf,ha⟩
   · exact h.each p (gT hm)
 · rw [(hp.map (·.2)).nodup_iff];simp only [map_cons,nodup_cons];refine ⟨fun hm=>hn ?_,(h.drop a).once⟩;obtain ⟨p,hp,e⟩:=List.mem_map.1 hm;exact List.mem_map.2 ⟨p,gT hp,e⟩
 · rw [hp.length_eq,ar];have h1:=length_filter_le (fun p:ByteArray×Nat => !decide (p.1=a)) l;have h2:=h.few
   rcases hl with hl | hl
   · have:=vQ hl;omega
   · unfold AF.drop;omega
theorem oP {f:FS} (h:f.WF) {i:Nat} {d:cu} {name:ByteArray} {b:List Nat} (hd:f.dirs[i]? = some d) (hr:right name=true) (h8:B8 b) (hl:b.length≤16777216) (hf:(of d.now name).isSome=true∨d.now.length<4096):(f.planted i name b).WF:=by
 have w:=h.each d (aj hd)
 have hlen:(f.files++[(⟨b,b.length⟩:cV)]).length=f.files.length+1:=by simp
 have hnew:f.files.length∉d.now.map (·.2):=fun hm=>by
  have:=jo w (fS w hm);omega
 have hok:Ok (f.files.length+1) (ins name f.files.length d.now):=(w.ok.grow (Nat.le_succ _)).ins2 hr (Nat.lt_succ_self _) hnew hf
 have sp:∀ x,x∈(ins name f.files.length d.now).map (·.2)→x∈d.speaks∨x=f.files.length:=by
  intro x hx;have hx2:=pz (o:=.create name f.files.length) hx w.ok.up
  rcases hx2 with hx2 | hx2
  · exact .inl (fS w hx2)
  · exact .inr (by simpa [dO] using hx2)
 have lt:∀ e∈f.dirs,∀ x∈e.speaks,x<f.files.length:=fun e he x hx=>jo (h.each e he) hx
 refine ⟨h.room,dl _ _ h.up fun d' hd' e he=>⟨fun k=>k,fun k=>k⟩,fun e he=>?_,dl _ _ h.apart fun d' hd' e he=>⟨fun k x hx hx2=>?_,fun k x hx hx2=>?_⟩,fun x hx=>?_,by show (List.modify _ _ _).length≤64; rw [length_modify]; exact h.few,h.fuse⟩
 · show e.WF (f.files++[(⟨b,b.length⟩:cV)]).length f.steps;rw [hlen]
   rcases gF he with he | ⟨d',hd',rfl⟩
   · exact (h.each e he).grow (Nat.le_succ _) (ax _)
   · have hd2:f.dirs[i]? = some d':=hd';rw [hd] at hd2;cases hd2;exact ⟨w.name,rfl,hok,aw _⟩
 · have hd2:f.dirs[i]? = some d':=hd';rw [hd] at hd2;cases hd2
   rcases sp x (by simpa [cu.speaks] using hx2) with h1 | h1
   · exact k x hx h1
   · have:=lt e he x hx;omega
 · have hd2:f.dirs[i]? = some d':=hd';rw [hd] at hd2;cases hd2
   rcases sp x (by simpa [cu.speaks] using hx) with h1 | h1
   · exact k x h1 hx2
   · have:=lt e he x hx2;omega
 · rcases List.mem_append.1 hx with hx | hx
   · exact h.files x hx
   · rw [mem_singleton] at hx;subst hx;exact ⟨ax _,hl,h8⟩
theorem FS.WF.plant {f:FS} (h:f.WF) (dir name:ByteArray) {b:List Nat} (h8:B8 b):(f.plant dir name b).1.WF:=by
 unfold FS.plant
 cases hn:f.named dir [name] with
 | error e=>exact h
 | ok i=>
   obtain ⟨_,hr,d,hd,_⟩:=mh hn;dsimp only;rw [iR hd];split
   · exact h
   · split
     · exact h
     · rename_i h1 h2;refine oP h hd (hr name (by simp)) h8 (by omega) ?_
       cases ho:of d.now name with
       | some x=>exact .inl rfl
       | none=>
         right;rw [ho] at h2;simp at h2;omega
end AF
open Go Go.RowKit Go.MapKept
set_option linter.unusedVariables false
set_option linter.unusedSimpArgs false
theorem wh {A:AF.FS} {x:Nat} {g:AF.cV→AF.cV} (hg:∀ y,(g y).b.length=y.b.length):(A.setFile x g).used=A.used:=by
 unfold AF.FS.used
 congr 1
 apply map_congr_left
 intro y hy
 rw [AF.kW]
 split
 · rw [hg]
 · rfl
theorem wC {n s:Nat} {xs ys fbs:List Nat} (hs:qr n xs ys) {ds:List AF.cu} {i:Nat} (w:∀ d∈ds,d.WF n s):lM xs fbs ds i=lM ys fbs ds i:=by
 unfold lM qe
 rw [kH fun d hd fb=>tK hs (w d hd) fb]
section
variable {b:Nat} {A:AF.FS} {q:rp} {F:List aF} {h:Heap} {dir name:ByteArray}
theorem zH {n:Int} (H:aG (bV b A::F) h):aE prog 56 [aM b,.int .i64 n] h fun v h'=>v=.int .i64 ((A.setRoom n).2:Int)∧aG (bV b (A.setRoom n).1::F) h':=by
 obtain ⟨q,hq,H1⟩:=cP H
 apply BG.ap
 unfold Gs AF.FS.setRoom
 rw [show (some (⟨b,0,none⟩:Addr)).isNone=false from rfl,ab]
 by_cases h1:n<0
 · rw [ah h1,ae,an (.inl h1)];exact ⟨rfl,H⟩
 · rw [af h1,ab];by_cases h2:1073741824<n
   · rw [ah (show n>1073741824 from h2),ae,an (.inr h2)];exact ⟨rfl,H⟩
   · rw [af (show ¬ n>1073741824 from h2),ab,am (by omega)];rw [aK,aP];refine ct (c':=#[.int .i64 ((n.toNat:Nat):Int),.int .i64 (A.used:Int),.int .i64 (A.steps:Int),.int .i64 (dP A.fuse),.bool A.off,.map (some q.md)]) H1 (by show 0<6; decide) (by rw [Int.toNat_of_nonneg (by omega)]; rfl) fun h2 H2=>?_;exact ⟨rfl,bu (A:={ A with room:=n.toNat }) q hq H2⟩
theorem zE {at_:Int} {turn:Nat} (W:A.WF) (ht:turn<256) (hd:dir.size<4611686018427387904) (hn:name.size<4611686018427387904) (hat:at_≤9223372036854775807) (H:aG (bV b A::F) h) :
  aE prog 59 [aM b,.string dir,.string name,.int .i64 at_,.int .u8 (turn:Int)] h fun v h'=>v=.int .i64 ((A.spoil dir name at_ turn).2:Int)∧aG (bV b (A.spoil dir name at_ turn).1::F) h':=by
 obtain ⟨q,hq,H0⟩:=cP H
 apply BF.ap
 unfold Gq
 rw [show (some (⟨b,0,none⟩:Addr)).isNone=false from rfl,ab]
 refine aW H0 fun b0 h1 H1=>?_
 refine (m7 (ss:=[name]) H1.drop (pA hq) (DV H1) rfl (show 1<1000 by omega) hd (fun s hs=>by simp at hs; rw [hs]; exact hn)).mono ?_
 rintro v h2 ⟨rfl,rfl⟩
 have H2:=H1.drop
 rcases pm W hq dir [name] with ⟨i,d,fb,he,hdi,hfi,hfv⟩ | ⟨e,he,hne,hfv⟩
 · rw [hfv];refine ⟨some ⟨fb,0,none⟩,0,rfl,?_⟩;rw [show ((0:Int)!=0)=false from rfl,ab];have w:=W.each d (aj hdi);obtain ⟨nb,bb,a,c,es,hfb,hes,hsz,hlk⟩:=ku (H2.mv 3) hdi hfi w.ok.up;obtain ⟨f,hf,hl⟩:=hlk name;have eA:A.spoil dir name at_ turn=match AF.of d.now name with
    | none=>(A,62)
    | some x=>if at_<0∨((A.X x).b.length:Int)≤at_ then (A,2) else (A.setFile x fun y=>{ y with b:=y.b.modify at_.toNat (· ^^^ turn) },0):=by
    unfold AF.FS.spoil;rw [he];dsimp only;rw [AF.iR hdi] <;> rfl
   rw [eA];simp only [aK,aP];have rd:∀ K:Value→Prop,K (.map (some nb))→Ld h2 ⟨fb,0,none⟩ K:=fun K hK=>⟨_,by rw [cm hfb]; rfl,hK⟩
   refine rd _ ?_;rw [cM];refine ⟨es,hes,f,hf,jZ hl ?_⟩
   cases ho:AF.of d.now name with
   | none=>
     show bif (true:Bool) then _ else _
     rw [ae];exact ⟨rfl,bu q hq H2⟩
   | some x=>
     show bif (false:Bool) then _ else _
     rw [ab];by_cases h1:at_<0
     · rw [ah h1,ae];simp only [h1,true_or,if_true];exact ⟨rfl,bu q hq H2⟩
     rw [af h1,ab];have hxf:=(w.ok.each _ (AF.jc ho)).1;obtain ⟨y,xb,hy,hxb,hxd⟩:=vr hq hxf;have hX:=AF.qf hy;have hlo:f.map (·.2)=(AF.of d.now name).map fun x=>aM (q.xbs.getD x 0):=hl;refine rd _ ?_;rw [cM];refine ⟨es,hes,f,hf,jZ hlo ?_⟩;rw [ho];show aR (some ⟨q.xbs.getD x 0,0,none⟩) _;rw [aK,hxd];obtain ⟨ya,yc,H3⟩:=kn (H2.mv 2) hy hxb;refine gd (v:=.slice ya y.b.length yc) H3.get rfl ?_;rw [aI];by_cases h2':((y.b.length:Nat):Int)≤at_
     · rw [ah (show at_≥(y.b.length:Int) from h2'),ae];dsimp only;rw [hX,an (.inr h2')];exact ⟨rfl,bu q hq H2⟩
     rw [af (show ¬ at_≥(y.b.length:Int) from h2'),ab];dsimp only;rw [hX,am (by rintro (h | h); exact h1 h; exact h2' h)];obtain ⟨k,rfl⟩:∃ k:Nat,at_=(k:Int):=⟨at_.toNat,by omega⟩
     rw [Int.toNat_natCast];refine rd _ ?_;rw [cM];refine ⟨es,hes,f,hf,jZ hlo ?_⟩;rw [ho];show aR (some ⟨q.xbs.getD x 0,0,none⟩) _;rw [aK,hxd];refine gd (v:=.slice ya y.b.length yc) H3.get rfl ?_;rw [aI];have H4:aG (aQ 5 1 ya y.b.length yc (y.b.map nv)::pt _ _::_) _:=H3.mv 1;obtain ⟨n,hn⟩:∃ n,y.b[k]? = some n:=⟨_,ai (by omega)⟩
     have hn8:=(W.files y (aj hy)).2.2 n (aj hn);have hget:(y.b.map nv)[k]? = some (nv n):=by rw [List.getElem?_map,hn]; rfl
     refine bj (aH H4) (aq ..) hget fun ba hba hc=>⟨_,hc,_,rfl,?_⟩
     refine bj (aH H4) (aq ..) hget fun ba2 hba2 hc2=>?_;rw [De hn8 ht];rw [hba2] at H4;refine cO H4 (by rw [aq]; omega) fun h5 H5=>?_;have eset:(y.b.map nv).set k (.int .u8 ((n ^^^ turn:Nat):Int))=(y.b.modify k (· ^^^ turn)).map nv:=by
      rw [cT (· ^^^ turn) hn,map_set]
      rfl
     rw [eset,← hba2] at H5;have el:(y.b.modify k (· ^^^ turn)).length=y.b.length:=length_modify ..;have H6:aG (pt xb (pu ya (y.b.modify k (· ^^^ turn)).length yc y.safe)::aQ 5 1 ya (y.b.modify k (· ^^^ turn)).length yc ((y.b.modify k (· ^^^ turn)).map nv)::pq q.xbs A.files x::cA b A q.md::bT aS q.md q.m::cQ q.xbs q.fbs A.dirs::F) h5:=by
      rw [el];exact H5.mv 1
     have H7:=mr (y:=⟨y.b.modify k (· ^^^ turn),y.safe⟩) hy hxb H6;refine ⟨rfl,bu q (pk hq x _) ?_⟩;have e3:A.files.set x ⟨y.b.modify k (· ^^^ turn),y.safe⟩=(A.setFile x fun y=>{ y with b:=y.b.modify k (· ^^^ turn) }).files:=(cT (l:=A.files) (fun y:AF.cV=>{ y with b:=y.b.modify k (· ^^^ turn) }) hy).symm;rw [e3] at H7;unfold cA at H7 ⊢;rw [wh fun y=>length_modify ..];exact H7.ordT 4 [1,2,0,3]
 · rw [hfv];refine ⟨none,(e:Int),rfl,?_⟩;have e0:e≠0:=by omega
   rw [aX e0,ae];unfold AF.FS.spoil;rw [he];exact ⟨rfl,bu q hq H2⟩
theorem oQ {i fb nb bb c:Nat} {d:AF.cu} {a ba:Option Addr} {bl bc:Nat} {bs:List Nat} {Q:Value→Heap→Prop} {hh:Heap} (W:A.WF) (W2:(A.planted i name bs).WF) (hq:lu A q) (hdi:A.dirs[i]? = some d) (hfi:q.fbs[i]? = some fb) (hl:bs.length=bl) (hbl:bl≤16777216)
  (H:aG (pt fb (li nb bb a d.pend.length c)::co q.xbs nb d.now::lM q.xbs q.fbs A.dirs i::cA b A q.md::bT aS q.md q.m::bY q.xbs A.files::aQ 5 1 ba bl bc (bs.map nv)::F) hh)
  (hQ:∀ h',aG (bV b (A.planted i name bs)::F) h'→Q (.int .i64 0) h') :
  aR (some ⟨fb,0,none⟩) fun a8=>
  Ld hh (a8.add 0) fun v6=>DM v6 fun x11=>
  aE prog 112 [.slice ba bl bc] hh fun r9 h_11=>
  aZ r9 fun x12a x12l x12c=>
  (aJ (some (.pointer (some ⟨fb,0,none⟩))) (.pointer (some ⟨fb,0,none⟩)))∧
  (aR (some ⟨fb,0,none⟩) fun a9=>
  aJ (some (.pointer (some a8))) (.pointer (some a9)))∧
  (aJ (some (.pointer (some (a8.add 0)))) (.pointer (some (a8.add 0))))∧
  (Ld h_11 (a8.add 0) fun v7=>DM v7 fun x13=>
  aJ (some (.map x11)) (.map x13))∧
  (aJ (some (.string name)) (.string name))∧
  (aJ (some (.slice ba bl bc)) (.slice ba bl bc))∧
  (aJ (some (.int .i64 (bl:Int))) (.int .i64 (bl:Int)))∧
  Al h_11 (.cells #[.slice x12a x12l x12c,.int .i64 (bl:Int)] 180) fun b3 h_12=>
  (aJ (some (.pointer (some ⟨fb,0,none⟩))) (.pointer (some ⟨fb,0,none⟩)))∧
  (aR (some ⟨fb,0,none⟩) fun a10=>
  aJ (some (.pointer (some a8))) (.pointer (some a10)))∧
  (aJ (some (.pointer (some (a8.add 0)))) (.pointer (some (a8.add 0))))∧
  (Ld h_12 (a8.add 0) fun v8=>DM v8 fun x14=>
  aJ (some (.map x11)) (.map x14))∧
  (aJ (some (.string name)) (.string name))∧
  qh prog (Instr.mapUpdate 174 (.map x11) (.string name) (.pointer (some (Addr.mk b3 0 none)))) h_12 fun h_13=>
  aR (some ⟨fb,0,none⟩) fun a11=>
  Ld h_13 (a11.add 0) fun v9=>DM v9 fun x15=>
  aE prog 104 [.map x15] h_13 fun r12 h_14=>
  DM r12 fun x16=>
  aR (some ⟨fb,0,none⟩) fun a12=>
  bN h_14 ((a12.add 1).add 0) (.map x16) fun h_16=>
  aR (some ⟨fb,0,none⟩) fun a13=>
  bN h_16 ((a13.add 2).add 0) (.slice none 0 0) fun h_18=>
  aE prog 110 [.pointer (some ⟨b,0,none⟩)] h_18 fun r15 h_19=>
  r15=.tuple #[]∧
  Q (.int .i64 0) h_19:=by
 simp only [aK,aP]
 have w:=W.each d (aj hdi)
 refine gd (v:=.map (some nb)) H.get rfl ⟨_,rfl,?_⟩
 refine (rE (by omega) (H.mv 6)).mono ?_
 rintro v h1 ⟨a2,c2,rfl,H1⟩
 rw [aI]
 refine ⟨rfl,rfl,rfl,gd (v:=.map (some nb)) (H1.mv 2).get rfl ⟨_,rfl,rfl⟩,rfl,rfl,rfl,?_⟩
 refine aW H1 fun b3 h2 H2=>?_
 refine ⟨rfl,rfl,rfl,gd (v:=.map (some nb)) (H2.mv 3).get rfl ⟨_,rfl,rfl⟩,rfl,?_⟩
 have hs:=lB q.xbs b3
 have hxl:q.xbs.length=A.files.length:=hq.2.2
 rw [hxl] at hs
 have hx:(q.xbs++[b3]).getD A.files.length 0=b3:=by
  rw [← hxl,getD_eq_getElem?_getD,List.getElem?_append_right (ax _)];simp
 have H3:aG (tH ⟨bs,bs.length⟩ b3::pt fb (li nb bb a d.pend.length c)::co (q.xbs++[b3]) nb d.now::lM (q.xbs++[b3]) q.fbs A.dirs i::cA b A q.md::bT aS q.md q.m::bY q.xbs A.files::F) h2:=by
  have K:=H2.ordT 9 [0,1,3,4,5,6,7,8];rw [lG hs fun p hp=>(w.ok.each p hp).1,wC hs W.each] at K;refine bD.2 ⟨(a2,c2),aG.shut (m:=[pt b3 (.cells #[.slice a2 bs.length c2,.int .i64 ((bs.length:Nat):Int)] 180 (0,0)),aQ 5 1 a2 bs.length c2 (bs.map nv)]) ?_⟩;rw [hl];exact K
 have H4:=tt hxl.symm (H3.ordT 7 [6,0,1,2,3,4,5])
 obtain ⟨m2,hp2,H5⟩:=eN (H4.mv 2)
 refine gM (E:=aS) (k:=name) E4 u9 H5 fun h3 H6=>?_
 have hp3:=sh hp2 w.ok.up name A.files.length
 rw [hx] at hp3
 refine gd (v:=.map (some nb)) (H6.mv 2).get rfl ⟨_,rfl,?_⟩
 refine (nd H6).mono ?_
 rintro v h4 ⟨cb,rfl,H7⟩
 rw [cM]
 refine ct (b:=fb) (i:=1) (c':=#[.map (some nb),.map (some cb),.slice a d.pend.length c]) (H7.mv 3) (by show 1<3; decide) rfl fun h5 H8=>?_
 refine ct (b:=fb) (i:=2) (c':=#[.map (some nb),.map (some cb),.slice none 0 0]) H8 (by show 2<3; decide) rfl fun h6 H9=>?_
 have K1:=cR hp3 (H9.mv 1)
 have K2:=cR hp3 (K1.mv 2)
 have K3:=jv (lF (q.xbs++[b3])) 182 K2
 have K4:=lL (d:=⟨d.name,AF.ins name A.files.length d.now,AF.ins name A.files.length d.now,[]⟩) (a:=none) (c:=0) hdi hfi (K3.ordT 8 [3,1,2,0,5,4,6,7])
 have e3:A.dirs.set i ⟨d.name,AF.ins name A.files.length d.now,AF.ins name A.files.length d.now,[]⟩=(A.planted i name bs).dirs:=(cT (l:=A.dirs) (fun d:AF.cu=>{ d with now:=AF.ins name A.files.length d.now,base:=AF.ins name A.files.length d.now,pend:=[] }) hdi).symm
 rw [e3] at K4
 have hq1:lu (A.planted i name bs) ⟨q.md,q.fbs,q.xbs++[b3],q.m⟩:=by
  have hq0:lu { A with files:=A.files++[⟨bs,bs.length⟩] } ⟨q.md,q.fbs,q.xbs++[b3],q.m⟩:=⟨hq.1,hq.2.1,by simp [hq.2.2]⟩
  exact pj hq0 (jO fun d=>rfl) rfl
 refine (m9 (A:=A.planted i name bs) (q:=⟨q.md,q.fbs,q.xbs++[b3],q.m⟩) (used0:=(A.used:Int)) (room:=(A.room:Int)) (steps:=(A.steps:Int)) (fuse:=dP A.fuse) (off:=A.off) W2 hq1 (K4.ordT 4 [2,3,1,0])).mono ?_
 rintro v h7 ⟨rfl,K5⟩
 exact ⟨rfl,hQ h7 (bu ⟨q.md,q.fbs,q.xbs++[b3],q.m⟩ hq1 K5)⟩
theorem zD {ba:Option Addr} {bl bc:Nat} {bs:List Nat} (W:A.WF) (hd:dir.size<4611686018427387904) (hn:name.size<4611686018427387904) (h8:B8 bs) (hl:bs.length=bl) (H:aG (bV b A::aQ 5 1 ba bl bc (bs.map nv)::F) h) :
  aE prog 60 [aM b,.string dir,.string name,.slice ba bl bc] h fun v h'=>v=.int .i64 ((A.plant dir name bs).2:Int)∧aG (bV b (A.plant dir name bs).1::F) h':=by
 obtain ⟨q,hq,H0⟩:=cP H
 apply BE.ap
 unfold Gp
 rw [show (some (⟨b,0,none⟩:Addr)).isNone=false from rfl,ab]
 refine aW H0 fun b1 h1 H1=>?_
 refine (m7 (ss:=[name]) H1.drop (pA hq) (DV H1) rfl (show 1<1000 by omega) hd (fun s hs=>by simp at hs; rw [hs]; exact hn)).mono ?_
 rintro v h2 ⟨rfl,rfl⟩
 have H2:=H1.drop
 have same:aG (bV b A::F) h2:=bu q hq (H2.ordT 5 [0,1,2,3])
 rcases pm W hq dir [name] with ⟨i,d,fb,he,hdi,hfi,hfv⟩ | ⟨e,he,hne,hfv⟩
 · rw [hfv];refine ⟨some ⟨fb,0,none⟩,0,rfl,?_⟩;rw [show ((0:Int)!=0)=false from rfl,ab];obtain ⟨_,hrn,_⟩:=AF.mh he;have w:=W.each d (aj hdi);have eA:A.plant dir name bs=if 16777216<bl then (A,67) else if (AF.of d.now name).isNone∧4096≤d.now.length then (A,66) else (A.planted i name bs,0):=by
    unfold AF.FS.plant;rw [he];dsimp only;rw [AF.iR hdi,hl]
   rw [eA];by_cases c1:16777216<bl
   · rw [ah (show ((bl:Int)>16777216) by omega),ae,an c1];exact ⟨rfl,same⟩
   rw [af (show ¬ ((bl:Int)>16777216) by omega),ab,am c1];obtain ⟨nb,bb,a,c,H3⟩:=i7 (H2.mv 3) hdi hfi;obtain ⟨m2,hp2,H4⟩:=eN (H3.mv 1);obtain ⟨es,clock,hm,hes⟩:=gG H4;obtain ⟨f,hf,hlk,_⟩:=hm.find name;have hl2:f.map (·.2)=(AF.of d.now name).map fun x=>aM (q.xbs.getD x 0):=by rw [hlk,vb hp2 w.ok.up]
   have hsz:es.size=d.now.length:=by rw [hm.size,hp2.length_eq,aq]
   have HT:=H3.ordT 9 [0,1,4,5,6,7,8];have W2:((AF.of d.now name).isSome=true∨d.now.length<4096)→(A.planted i name bs).WF:=fun hc=>AF.oP W hdi (hrn name (by simp)) h8 (by omega) hc;rw [aK,aP];refine gd (v:=.map (some nb)) H3.get rfl ⟨_,rfl,?_⟩;refine ⟨es,hes,f,hf,jZ hl2 ?_⟩
   cases ho:AF.of d.now name with
   | none=>
     show bif (true:Bool) then _ else _
     rw [ae,aK,aP];refine gd (v:=.map (some nb)) H3.get rfl ⟨_,rfl,?_⟩;refine ⟨es,hes,?_⟩;rw [hsz];by_cases c2:4096≤d.now.length
     · rw [ah (show ((d.now.length:Int)≥4096) by omega),ae,an ⟨rfl,c2⟩];exact ⟨rfl,same⟩
     · rw [af (show ¬ ((d.now.length:Int)≥4096) by omega),ab,am (fun hh=>c2 hh.2)];exact oQ (Q:=fun v h'=>v=.int .i64 (((A.planted i name bs,0):AF.FS×Nat).2:Int)∧aG (bV b ((A.planted i name bs,0):AF.FS×Nat).1::F) h') W (W2 (.inr (by omega))) hq hdi hfi hl (by omega) HT fun h' H'=>⟨rfl,H'⟩
   | some x=>
     show bif (false:Bool) then _ else _
     rw [ab,am (fun hh=>by cases hh.1)];exact oQ (Q:=fun v h'=>v=.int .i64 (((A.planted i name bs,0):AF.FS×Nat).2:Int)∧aG (bV b ((A.planted i name bs,0):AF.FS×Nat).1::F) h') W (W2 (.inl (by rw [ho]; rfl))) hq hdi hfi hl (by omega) HT fun h' H'=>⟨rfl,H'⟩
 · rw [hfv];refine ⟨none,(e:Int),rfl,?_⟩;have e0:e≠0:=by omega
   rw [aX e0,ae];unfold AF.FS.plant;rw [he];exact ⟨rfl,same⟩
end
open Go Go.RowKit
def cn (p:ByteArray×Nat):List Value:=[.string p.1,.int .i64 (p.2:Int)]
def mN:AF.Op→List Value
 | .create n f=>[.int .i64 1,.string n,.string .empty,.int .i64 (f:Int)]
 | .rename a b=>[.int .i64 2,.string a,.string b,.int .i64 0]
 | .remove a=>[.int .i64 3,.string a,.string .empty,.int .i64 0]
def ko (x:AF.cV):List Value:=[.string (dW x.b),.int .i64 (x.safe:Int)]
structure gt where
 na:Option Addr
 nc:Nat
 ba:Option Addr
 bc:Nat
 pa:Option Addr
 pc:Nat
def eS (p:AF.cu×gt):List Value:=[.string p.1.name,.slice p.2.na p.1.now.length p.2.nc,.slice p.2.ba p.1.base.length p.2.bc,.slice p.2.pa p.1.pend.length p.2.pc]
theorem cd (p:ByteArray×Nat):(cn p).length=2:=rfl
theorem rY (o:AF.Op):(mN o).length=4:=by cases o <;> rfl
theorem jS (x:AF.cV):(ko x).length=2:=rfl
theorem cD (p:AF.cu×gt):(eS p).length=4:=rfl
def cW (d:AF.cu) (q:gt):aF:=bP [jH q.na (d.now.flatMap cn),jH q.ba (d.base.flatMap cn),jH q.pa (d.pend.flatMap mN)]
structure g5 where
 fa:Option Addr
 fc:Nat
 da:Option Addr
 dc:Nat
 qs:List gt
def fi (A:AF.FS) (q:g5):Array Value:=#[.int .i64 (A.room:Int),.int .i64 (A.steps:Int),.int .i64 (dP A.fuse),.bool A.off,.slice q.fa A.files.length q.fc,.slice q.da A.dirs.length q.dc]
def cF (A:AF.FS) (q:g5):aF:=aQ 199 2 q.fa A.files.length q.fc (A.files.flatMap ko)
def dF (A:AF.FS) (q:g5):aF:=aQ 144 4 q.da A.dirs.length q.dc ((A.dirs.zip q.qs).flatMap eS)
def cp (A:AF.FS) (q:g5):aF:=bP (zipWith cW A.dirs q.qs)
def bd (m:Nat) (A:AF.FS):aF:=pZ fun q:g5=>bP [lY (q.qs.length=A.dirs.length),pt m (.cells (fi A q) 109 (0,0)),cF A q,dF A q,cp A q]
section
variable {m:Nat} {A:AF.FS} {F:List aF} {h:Heap}
theorem bS (H:aG (bd m A::F) h):∃ q:g5,q.qs.length=A.dirs.length∧aG (pt m (.cells (fi A q) 109 (0,0))::cF A q::dF A q::cp A q::F) h:=by
 obtain ⟨q,H2⟩:=bD.1 H
 obtain ⟨hq,H3⟩:=cE.1 H2.open
 exact ⟨q,hq,H3⟩
theorem dg {q:g5} (hq:q.qs.length=A.dirs.length) (H:aG (pt m (.cells (fi A q) 109 (0,0))::cF A q::dF A q::cp A q::F) h):aG (bd m A::F) h:=
 bD.2 ⟨q,aG.shut (m:=[lY (q.qs.length=A.dirs.length),pt m (.cells (fi A q) 109 (0,0)),cF A q,dF A q,cp A q]) (cE.2 ⟨hq,H⟩)⟩
theorem cL {q:g5} {i:Nat} {d:AF.cu} (hq:q.qs.length=A.dirs.length) (hi:A.dirs[i]? = some d) (H:aG (dF A q::cp A q::F) h) :
  ∃ x:gt,q.qs[i]? = some x∧(A.dirs.zip q.qs)[i]? = some (d,x)∧cv h x.na (d.now.flatMap cn)∧cv h x.ba (d.base.flatMap cn)∧cv h x.pa (d.pend.flatMap mN):=by
 have hlt:=(ak.1 hi).1
 obtain ⟨x,hx⟩:∃ x,q.qs[i]? = some x:=⟨_,ai (by omega)⟩
 refine ⟨x,hx,?_,?_⟩
 · rw [List.zip,getElem?_zipWith,hi,hx]
 · have H2:aG (zipWith cW A.dirs q.qs++(dF A q::F)) h:=(H.mv 1).open;have H3:=(H2.focus (i:=i) (A:=cW d x) (by rw [getElem?_zipWith,hi,hx])).open;exact ⟨lU H3,lU (H3.mv 1),lU (H3.mv 2)⟩
theorem ib {q:g5} (hq:q.qs.length=A.dirs.length):(A.dirs.zip q.qs).length=A.dirs.length:=by rw [List.length_zip,hq,Nat.min_self]
theorem zV {room:Nat} (H:aG F h) (hr:room≤1073741824) :
  aE prog 22 [.int .i64 (room:Int)] h fun v h'=>∃ m,v=.tuple #[aM m,.int .i64 0]∧aG (bd m ⟨room,0,none,false,[],[]⟩::F) h':=by
 apply BP.ap
 unfold GA
 rw [af (show ¬ ((room:Int)<0) by omega),ab,af (show ¬ ((room:Int)>1073741824) by omega),ab]
 refine aW H fun m h1 H1=>⟨m,rfl,?_⟩
 refine dg (q:=⟨none,0,none,0,[]⟩) rfl ?_
 have H2:aG (cp ⟨room,0,none,false,[],[]⟩ ⟨none,0,none,0,[]⟩::pt m (.cells (fi ⟨room,0,none,false,[],[]⟩ ⟨none,0,none,0,[]⟩) 109 (0,0))::F) h1:=oZ H1
 exact (bR 199 2 (bR 144 4 H2)).ordT 4 [3,0,1,2]
theorem jG (W:A.WF) (hs:A.steps<1099511627776) (H:aG (bd m A::F) h) :
  aE prog 114 [aM m] h fun v h'=>(A.fuse=some 0∧v=.int .i64 60∧aG (bd m { A with off:=true }::F) h')∨(A.fuse≠some 0∧v=.int .i64 0∧aG (bd m A.stepOn::F) h'):=by
 apply Aj.ap
 unfold Dc
 obtain ⟨q,hq,H1⟩:=bS H
 simp only [aK,aP]
 refine bM (x:=dP A.fuse) H1 rfl ?_
 have shutF:∀ (B:AF.FS) (h':Heap),B.files=A.files→B.dirs=A.dirs→aG (pt m (.cells (fi B q) 109 (0,0))::cF A q::dF A q::cp A q::F) h'→aG (bd m B::F) h':=by
  intro B h' e1 e2 H';refine dg (q:=q) (by rw [e2]; exact hq) ?_;unfold cF dF cp at H' ⊢;rw [e1,e2];exact H'
 have onC:∀ (k:Int),k=dP A.stepOn.fuse→(#[.int .i64 (A.room:Int),.int .i64 ((A.steps+1:Nat):Int),.int .i64 k,.bool A.off,.slice q.fa A.files.length q.fc,.slice q.da A.dirs.length q.dc]:Array Value)=fi A.stepOn q:=fun k e=>by subst e; rfl
 have hcase:A.fuse=none∨A.fuse=some 0∨∃ n,A.fuse=some (n+1):=by
  cases A.fuse with
  | none=>exact .inl rfl
  | some n=>
    cases n with
    | zero=>exact .inr (.inl rfl)
    | succ n=>exact .inr (.inr ⟨n,rfl⟩)
 rcases hcase with hf | hf | ⟨n,hf⟩
 · have e0:dP A.fuse = -1:=by rw [hf]; rfl
   rw [e0,show ((-1:Int)==0)=false from rfl,ab];refine bM (x:=dP A.fuse) H1 rfl ?_;rw [e0,af (show ¬ (-1:Int)>0 by decide),ab];refine bM (x:=(A.steps:Int)) H1 rfl ?_;rw [aN (by omega)];refine ct (c':=fi A.stepOn q) H1 (by show 1<6; decide) (onC (dP A.fuse) (by unfold AF.FS.stepOn; dsimp only; rw [hf]; rfl)) fun h2 H2=>?_;exact .inr ⟨by rw [hf]; simp,by trivial,shutF A.stepOn h2 rfl rfl H2⟩
 · have e0:dP A.fuse=0:=by rw [hf]; rfl
   rw [e0,show ((0:Int)==0)=true from rfl,ae];refine ct (c':=fi { A with off:=true } q) H1 (by show 3<6; decide) rfl fun h2 H2=>?_;exact .inl ⟨hf,by trivial,shutF _ h2 rfl rfl H2⟩
 · have hn:=W.fuse _ hf;have e0:dP A.fuse=((n+1:Nat):Int):=by rw [hf]; rfl
   rw [e0,show (((n+1:Nat):Int)==0)=false by rw [beq_eq_false_iff_ne]; omega,ab];refine bM (x:=dP A.fuse) H1 rfl ?_;rw [e0,ah (show ((n+1:Nat):Int)>0 by omega),ae];refine bM (x:=dP A.fuse) H1 rfl ?_;have w:wrap .i64 (dP A.fuse - 1)=(n:Int):=by
    rw [e0,IntWalk.i64_in _ (by omega)];omega
   rw [w];refine ct (c':=#[.int .i64 (A.room:Int),.int .i64 (A.steps:Int),.int .i64 (n:Int),.bool A.off,.slice q.fa A.files.length q.fc,.slice q.da A.dirs.length q.dc]) H1 (by show 2<6; decide) rfl fun h2 H2=>?_;refine bM (x:=(A.steps:Int)) H2 rfl ?_;rw [aN (by omega)];refine ct (c':=fi A.stepOn q) H2 (by show 1<6; decide) (onC (n:Int) (by unfold AF.FS.stepOn; dsimp only; rw [hf]; rfl)) fun h3 H3=>?_;exact .inr ⟨by rw [hf]; simp,by trivial,shutF A.stepOn h3 rfl rfl H3⟩
def vD (o:Option Nat):Int:=match o with
 | some x=>(x:Int)
 | none => -1
theorem Fo {l:AF.bG} {name:ByteArray} {i:Nat} (h0:∀ (j:Nat) (p:ByteArray×Nat),j<i→l[j]? = some p→p.1≠name) {p:ByteArray×Nat} (hp:l[i]? = some p) (hn:p.1=name):AF.of l name=some p.2:=by
 unfold AF.of
 have:l.find? (fun p=>decide (p.1=name))=some p:=by
  rw [List.find?_eq_some_iff_getElem];obtain ⟨hlt,he⟩:=ak.1 hp;refine ⟨ah hn,i,hlt,he,fun j hj=>?_⟩;have:=h0 j l[j] hj (ai (by omega));simpa using this
 rw [this]
 rfl
theorem Fm {l:AF.bG} {name:ByteArray} (h0:∀ (j:Nat) (p:ByteArray×Nat),l[j]? = some p→p.1≠name):AF.of l name=none:=by
 unfold AF.of
 have:l.find? (fun p=>decide (p.1=name))=none:=by
  rw [find?_eq_none];intro p hp;obtain ⟨j,hj⟩:=getElem?_of_mem hp;have:=h0 j p hj;simpa using this
 rw [this]
 rfl
theorem ir {a:Option Addr} {n c:Nat} {l:AF.bG} {name:ByteArray} (hr:cv h a (l.flatMap cn)) (hl:l.length=n) (hm:n<4611686018427387904) :
  aE prog 115 [.slice a n c,.string name] h fun v h'=>v=.int .i64 (vD (AF.of l name))∧h'=h:=by
 apply Ai.ap
 unfold Db
 refine ⟨fun st hh=>hh=h∧∃ i:Nat,st=(i:Int)∧i≤n∧∀ (j:Nat) (p:ByteArray×Nat),j<i→l[j]? = some p→p.1≠name,fun st _=>((n:Int) - st).toNat,⟨rfl,0,rfl,aw _,fun j p hj=>by omega⟩,?_⟩
 rintro st h1 ⟨rfl,i,rfl,hi,hno⟩
 by_cases hlt:i<n
 · rw [ah (show ((i:Int)<(n:Int)) by omega),ae];obtain ⟨p,hp⟩:∃ p,l[i]? = some p:=⟨_,ai (by omega)⟩
   refine dp cd (by decide) hr hl hp fun b hb hc=>fE (hc 0 _ rfl) ?_;rw [dL];by_cases hn:p.1=name
   · rw [ah hn,ae];refine dp cd (by decide) hr hl hp fun b hb hc=>nX (hc 1 _ rfl) ?_;rw [Fo hno hp hn];exact ⟨rfl,rfl⟩
   · rw [af hn,ab,aN (by omega)];refine ⟨⟨rfl,i+1,rfl,by omega,fun j p' hj hp'=>?_⟩,by show ((n:Int) - ((i+1:Nat):Int)).toNat<((n:Int) - (i:Int)).toNat; omega⟩;by_cases hji:j=i
     · subst hji;rw [hp] at hp';cases hp';exact hn
     · exact hno j p' (by omega) hp'
 · rw [af (by omega),ab,Fm fun j p hp=>hno j p (by have:=(ak.1 hp).1; omega) hp];exact ⟨rfl,rfl⟩
end
theorem wo:prog.underlying 141=some (.slice 206):=by kernel_rfl
theorem mF:d8 prog 141=true:=by kernel_rfl
theorem mS:gi prog 206 2 24=true:=by kernel_rfl
section
variable {m:Nat} {A:AF.FS} {F:List aF} {h:Heap} {dir name:ByteArray}
theorem gD (p:ByteArray×Nat):∀ u∈cn p,u.oneCell'=true:=by
 intro u hu
 simp [cn] at hu
 rcases hu with rfl | rfl <;> rfl
theorem mY {s:ByteArray}:aE prog 148 [.string s] h fun v h'=>v=.bool (AF.right s)∧h'=h:=by
 apply z7.ap
 unfold C4
 by_cases h1:s.size<1
 · rw [ah (show ((s.size:Int)<1) by omega),ae];refine ⟨congrArg Value.bool ?_,rfl⟩;unfold AF.right;rw [af (show ¬ 1≤s.size by omega)]
   rfl
 rw [af (show ¬ ((s.size:Int)<1) by omega),ab]
 by_cases h2:s.size>32
 · rw [ah (show ((s.size:Int)>32) by omega),ae];refine ⟨congrArg Value.bool ?_,rfl⟩;unfold AF.right;rw [af (show ¬ s.size≤32 by omega),Bool.and_false]
   rfl
 rw [af (show ¬ ((s.size:Int)>32) by omega),ab]
 have er:AF.right s=(sb s).all fun c=>(decide (97≤c)&&decide (c≤122))||(decide (48≤c)&&decide (c≤57))||decide (c=46):=by
  unfold AF.right;rw [ah (show 1≤s.size by omega),ah (show s.size≤32 by omega),Bool.and_self,Bool.true_and,sb,nb,List.all_map]
  rfl
 rw [er]
 have hsl:=bE s
 let ok:Nat→Bool:=fun c=>(decide (97≤c)&&decide (c≤122))||(decide (48≤c)&&decide (c≤57))||decide (c=46)
 show bf _ 0 h
 refine ⟨fun st hh=>hh=h∧∃ i:Nat,st=(i:Int)∧i≤s.size∧∀ c∈(sb s).take i,ok c=true,fun st _=>((s.size:Int) - st).toNat,⟨rfl,0,rfl,aw _,by simp⟩,?_⟩
 rintro st h1 ⟨rfl,i,rfl,hi,hok⟩
 by_cases hlt:i<s.size
 · rw [ah (show ((i:Int)<(s.size:Int)) by omega),ae];obtain ⟨c,hc⟩:∃ c,(sb s)[i]? = some c:=⟨_,ai (by omega)⟩
   refine ⟨by omega,by omega,?_⟩;rw [nK hc,aN (by omega)];have on:ok c=true→(h1=h1∧∃ i_1:Nat,((i+1:Nat):Int)=(i_1:Int)∧i_1≤s.size∧∀ c∈(sb s).take i_1,ok c=true)∧((s.size:Int) - ((i+1:Nat):Int)).toNat<((s.size:Int) - (i:Int)).toNat:=by
    intro hcok;refine ⟨⟨rfl,i+1,rfl,by omega,fun c' hc'=>?_⟩,by omega⟩;rw [az,hc] at hc'
    rcases List.mem_append.1 hc' with hc' | hc'
    · exact hok c' hc'
    · have:c'=c:=by simpa using hc'
      rw [this];exact hcok
   have off:ok c=false→(Value.bool false=Value.bool ((sb s).all ok)∧h1=h1):=by
    intro hcok;refine ⟨congrArg Value.bool ?_,rfl⟩
    symm
    rw [List.all_eq_false];exact ⟨c,aj hc,by rw [hcok]; simp⟩
   by_cases a1:97≤c
   · rw [ah (show ((c:Int)≥97) by omega),ae];by_cases a2:c≤122
     · rw [ah (show ((c:Int)≤122) by omega),ae];exact on (by show ((decide (97≤c)&&decide (c≤122))||(decide (48≤c)&&decide (c≤57))||decide (c=46))=true; rw [ah a1,ah a2]; rfl)
     · rw [af (show ¬ ((c:Int)≤122) by omega),ab,ah (show ((c:Int)≥48) by omega),ae,af (show ¬ ((c:Int)≤57) by omega),ab,
        show ((c:Int)==46)=false by rw [beq_eq_false_iff_ne]; omega]
       exact off (by show ((decide (97≤c)&&decide (c≤122))||(decide (48≤c)&&decide (c≤57))||decide (c=46))=false; rw [af a2,af (show ¬ c≤57 by omega),af (show ¬ c=46 by omega)]; simp)
   · rw [af (show ¬ ((c:Int)≥97) by omega),ab];by_cases a3:48≤c
     · rw [ah (show ((c:Int)≥48) by omega),ae];by_cases a4:c≤57
       · rw [ah (show ((c:Int)≤57) by omega),ae];exact on (by show ((decide (97≤c)&&decide (c≤122))||(decide (48≤c)&&decide (c≤57))||decide (c=46))=true; rw [ah a3,ah a4]; simp)
       · rw [af (show ¬ ((c:Int)≤57) by omega),ab,show ((c:Int)==46)=false by rw [beq_eq_false_iff_ne]; omega];exact off (by show ((decide (97≤c)&&decide (c≤122))||(decide (48≤c)&&decide (c≤57))||decide (c=46))=false; rw [af a1,af a4,af (show ¬ c=46 by omega)]; simp)
     · rw [af (show ¬ ((c:Int)≥48) by omega),ab];by_cases a5:c=46
       · rw [show ((c:Int)==46)=true by rw [a5]; rfl];exact on (by show ((decide (97≤c)&&decide (c≤122))||(decide (48≤c)&&decide (c≤57))||decide (c=46))=true; rw [ah a5]; simp)
       · rw [show ((c:Int)==46)=false by rw [beq_eq_false_iff_ne]; omega];exact off (by show ((decide (97≤c)&&decide (c≤122))||(decide (48≤c)&&decide (c≤57))||decide (c=46))=false; rw [af a1,af a3,af a5]; simp)
 · rw [af (by omega),ab];have ei:i=s.size:=by omega
   refine ⟨congrArg Value.bool ?_,rfl⟩
   symm
   rw [List.all_eq_true];rw [ei,← hsl,take_length] at hok;exact hok
theorem xw {q:g5} (hq:q.qs.length=A.dirs.length) (hm:A.dirs.length<4611686018427387904) (H:aG (pt m (.cells (fi A q) 109 (0,0))::cF A q::dF A q::cp A q::F) h) :
  aE prog 149 [aM m,.string dir] h fun v h'=>v=.int .i64 (vD (A.at dir))∧h'=h:=by
 apply z6.ap
 unfold C3
 simp only [aK]
 have hr:cv h q.da ((A.dirs.zip q.qs).flatMap eS):=aH (H.mv 2)
 refine ⟨fun st hh=>hh=h∧∃ i:Nat,st=(i:Int)∧i≤A.dirs.length∧∀ (j:Nat) (d:AF.cu),j<i→A.dirs[j]? = some d→d.name≠dir,fun st _=>((A.dirs.length:Int) - st).toNat,⟨rfl,0,rfl,aw _,fun j p hj=>by omega⟩,?_⟩
 rintro st h1 ⟨rfl,i,rfl,hi,hno⟩
 refine bH (a:=q.da) (l:=A.dirs.length) (m:=q.dc) H rfl ?_
 by_cases hlt:i<A.dirs.length
 · rw [ah (show ((i:Int)<(A.dirs.length:Int)) by omega),ae];obtain ⟨d,hd⟩:∃ d,A.dirs[i]? = some d:=⟨_,ai hlt⟩
   obtain ⟨x,hx,hz,_⟩:=cL hq hd (H.mv 3 |>.mv 3);refine bH (a:=q.da) (l:=A.dirs.length) (m:=q.dc) H rfl ?_;refine dp cD (by decide) hr (ib hq) hz fun b hb hc=>fE (hc 0 _ rfl) ?_;rw [dL];by_cases hn:d.name=dir
   · rw [ah hn,ae];have:A.at dir=some i:=by
      unfold AF.FS.at;rw [findIdx?_eq_some_iff_getElem];obtain ⟨hil,he⟩:=ak.1 hd;refine ⟨hil,by rw [he]; exact ah hn,fun j hj=>?_⟩;have:=hno j A.dirs[j] hj (ai (by omega));simpa using this
     rw [this];exact ⟨rfl,rfl⟩
   · rw [af hn,ab,aN (by omega)];refine ⟨⟨rfl,i+1,rfl,by omega,fun j d' hj hd'=>?_⟩,by show ((A.dirs.length:Int) - ((i+1:Nat):Int)).toNat<((A.dirs.length:Int) - (i:Int)).toNat; omega⟩;by_cases hji:j=i
     · subst hji;rw [hd] at hd';cases hd';exact hn
     · exact hno j d' (by omega) hd'
 · rw [af (by omega),ab];have:A.at dir=none:=by
    unfold AF.FS.at;rw [findIdx?_eq_none_iff];intro d hd;obtain ⟨j,hj⟩:=getElem?_of_mem hd;have:=hno j d (by have:=(ak.1 hj).1; omega) hj;simpa using this
   rw [this];exact ⟨rfl,rfl⟩
def yL:Except Nat Nat→Value
 | .ok i=>.tuple #[.int .i64 (i:Int),.int .i64 0]
 | .error e=>.tuple #[.int .i64 (-1),.int .i64 (e:Int)]
theorem m5 {a b:ByteArray} (hm:A.dirs.length<4611686018427387904) (H:aG (bd m A::F) h) :
  aE prog 120 [aM m,.string dir,.string a,.string b] h fun v h'=>v=yL (A.named dir [a,b])∧h'=h:=by
 apply Ad.ap
 unfold C8
 refine mY.mono ?_
 rintro v h1 ⟨rfl,rfl⟩
 rw [bO]
 cases r1:AF.right dir with
 | false=>
   refine ⟨?_,rfl⟩;unfold AF.FS.named;rw [r1]
   rfl
 | true=>
   rw [aB,ab];refine mY.mono ?_;rintro v h1 ⟨rfl,rfl⟩;rw [bO]
   cases r2:AF.right a with
   | false=>
     refine ⟨?_,rfl⟩;unfold AF.FS.named;rw [r1,all_cons,r2]
     rfl
   | true=>
     rw [aB,ab];refine mY.mono ?_;rintro v h1 ⟨rfl,rfl⟩;rw [bO]
     cases r3:AF.right b with
     | false=>
       refine ⟨?_,rfl⟩;unfold AF.FS.named;rw [r1,all_cons,all_cons,r2,r3]
       rfl
     | true=>
       rw [aB,ab];obtain ⟨q,hq,H1⟩:=bS H;refine (xw hq hm H1).mono ?_;rintro v h1 ⟨rfl,rfl⟩;rw [aL];have e:A.named dir [a,b]=match A.at dir with
        | some i=>.ok i
        | none=>.error 61:=by
        unfold AF.FS.named;rw [r1,all_cons,all_cons,r2,r3]
        rfl
       rw [e]
       cases A.at dir with
       | none=>
         rw [show vD none = -1 from rfl,ah (by decide),ae];exact ⟨rfl,rfl⟩
       | some i=>
         rw [show vD (some i)=(i:Int) from rfl,af (by omega),ab];exact ⟨rfl,rfl⟩
theorem is {a b:ByteArray} (hm:A.dirs.length<4611686018427387904) (H:aG (bd m A::F) h) :
  aE prog 113 [aM m,.string dir,.string a,.string b] h fun v h'=>v=yL (A.ready dir [a,b])∧h'=h:=by
 apply Ak.ap
 unfold Dd
 obtain ⟨q,hq,H1⟩:=bS H
 simp only [aK]
 refine dX (v:=.bool A.off) H1 rfl ?_
 rw [bO]
 unfold AF.FS.ready
 cases A.off with
 | true=>exact ⟨rfl,by trivial⟩
 | false=>
   rw [ab];refine (m5 hm H).mono ?_;rintro v h1 ⟨rfl,rfl⟩
   cases A.named dir [a,b] with
   | ok i=>exact ⟨_,_,rfl,rfl,rfl⟩
   | error e=>exact ⟨_,_,rfl,rfl,rfl⟩
theorem uM:A.named dir [dir,dir]=A.named dir []:=by
 unfold AF.FS.named
 rw [all_cons,all_cons]
 cases AF.right dir <;> rfl
theorem lC:A.ready dir [dir,dir]=A.ready dir []:=by unfold AF.FS.ready; rw [uM]
theorem mO:A.named dir [name,name]=A.named dir [name]:=by
 unfold AF.FS.named
 rw [all_cons,all_cons]
 cases AF.right dir <;> cases AF.right name <;> rfl
theorem qx:A.ready dir [name,name]=A.ready dir [name]:=by unfold AF.FS.ready; rw [mO]
def DJ:Except Nat (Nat×Nat)→Value
 | .ok (i,x)=>.tuple #[.int .i64 (i:Int),.int .i64 (x:Int),.int .i64 0]
 | .error e=>.tuple #[.int .i64 (-1),.int .i64 (-1),.int .i64 (e:Int)]
theorem gB {ss:List ByteArray} {e:Nat} (h:A.ready dir ss=.error e):e≠0:=by
 unfold AF.FS.ready AF.FS.named at h
 split at h
 · cases h; decide
 · split at h
   · split at h
     · cases h
     · cases h; decide
   · cases h; decide
theorem kY (W:A.WF) (H:aG (bd m A::F) h):aE prog 117 [aM m,.string dir,.string name] h fun v h'=>v=DJ (A.entry dir name)∧h'=h:=by
 apply Ag.ap
 unfold C9
 have hfew:=W.few
 refine (is (by omega) H).mono ?_
 rintro v h1 ⟨rfl,rfl⟩
 rw [qx]
 unfold AF.FS.entry
 cases hr:A.ready dir [name] with
 | error e=>
   have e0:=gB hr;refine ⟨_,_,rfl,?_⟩;rw [aX e0,ae];exact ⟨rfl,rfl⟩
 | ok i=>
   obtain ⟨_,_,_,_,d,hd,hdn⟩:=AF.db hr;have hD:=AF.iR hd;refine ⟨_,_,rfl,?_⟩;rw [show ((0:Int)!=0)=false from rfl,ab];obtain ⟨q,hq,H1⟩:=bS H;obtain ⟨x,hx,hz,hn,_,_⟩:=cL hq hd (H1.mv 3 |>.mv 3);simp only [aK];refine bH (a:=q.da) (l:=A.dirs.length) (m:=q.dc) H1 rfl ?_;refine dp cD (by decide) (aH (H1.mv 2)) (ib hq) hz fun b hb hc=>p5 (hc 1 _ rfl) ?_;have hnl:=(W.each d (aj hd)).ok.few;refine (ir hn rfl (by omega)).mono ?_;rintro v h2 ⟨rfl,rfl⟩;rw [aL,hD]
   cases AF.of d.now name with
   | none=>
     rw [show vD none = -1 from rfl,ah (by decide),ae];exact ⟨rfl,rfl⟩
   | some x=>
     rw [show vD (some x)=(x:Int) from rfl,af (by omega),ab];exact ⟨rfl,rfl⟩
end
section
variable {F:List aF} {h:Heap} {name:ByteArray}
def my (l:AF.bG) (F:List aF) (v:Value) (h':Heap):Prop:=∃ (a:Option Addr) (c:Nat),v=.slice a l.length c∧aG (aQ 206 2 a l.length c (l.flatMap cn)::F) h'
theorem rv {a:Option Addr} {n c:Nat} {l:AF.bG} (hr:∀ h',aG F h'→cv h' a (l.flatMap cn)) (hl:l.length=n) (hm:n≤100000) (H:aG F h) :
  aE prog 147 [.slice a n c,.string name] h (my (AF.drop l name) F):=by
 apply z8.ap
 unfold C5
 refine ⟨fun st hh=>∃ (i:Nat) (oa:Option Addr) (oc:Nat),st=(⟨oa,(AF.drop (l.take i) name).length,oc⟩,(i:Int))∧i≤n∧aG (aQ 206 2 oa (AF.drop (l.take i) name).length oc ((AF.drop (l.take i) name).flatMap cn)::F) hh,
  fun st _=>((n:Int) - st.2).toNat,⟨0,none,0,rfl,aw _,bR 206 2 H⟩,?_⟩
 rintro st h1 ⟨i,oa,oc,rfl,hi,H1⟩
 dsimp only
 by_cases hlt:i<n
 · rw [ah (show ((i:Int)<(n:Int)) by omega),ae];obtain ⟨p,hp⟩:∃ p,l[i]? = some p:=⟨_,ai (by omega)⟩
   have ht:AF.drop (l.take (i+1)) name=AF.drop (l.take i) name++(if p.1=name then [] else [p]):=by
    unfold AF.drop;rw [az,hp,List.filter_append];congr 1;by_cases e:p.1=name
    · rw [an e]; simp [e]
    · rw [am e]; simp [e]
   refine dp cd (by decide) (hr h1 H1.drop) hl hp fun b hb hc=>fE (hc 0 _ rfl) ?_;rw [dL];have wi:wrap .i64 ((i:Int)+1)=((i+1:Nat):Int):=aN (by omega);by_cases e:p.1=name
   · rw [ah e,aB,ab,wi];rw [an e,append_nil] at ht;exact ⟨⟨i+1,oa,oc,by rw [ht],by omega,by rw [ht]; exact H1⟩,by show ((n:Int) - ((i+1:Nat):Int)).toNat<((n:Int) - (i:Int)).toNat; omega⟩
   · rw [af e,aC,ae,wi];rw [am e] at ht;refine dp cd (by decide) (hr h1 H1.drop) hl hp fun b hb hc=>⟨_,hc 0 _ rfl,_,hc 1 _ rfl,_,_,rfl,?_⟩
     have hdl:(AF.drop (l.take i) name).length≤i:=by
      refine Nat.le_trans (length_filter_le _ _) ?_;rw [au];omega
     refine g8 (f:=cn) (x:=p) wo mF mS cd (gD p) rfl rfl (by omega) H1 fun a' c' h2 H2=>?_;refine ⟨⟨i+1,a',c',by rw [ht,ao]; rfl,by omega,?_⟩,by show ((n:Int) - ((i+1:Nat):Int)).toNat<((n:Int) - (i:Int)).toNat; omega⟩;rw [ht,ao];exact H2
 · rw [af (by omega),ab];have ei:l.take i=l:=av (by omega);rw [ei] at H1 ⊢;exact ⟨oa,oc,rfl,H1⟩
end
namespace AF
theorem tA {n:ByteArray} {f:Nat} {l2:bG}:∀ {l1:bG},(∀ p∈l1,ji p.1 n=true)→ins n f (l1++l2)=l1++ins n f l2
 | [],_=>rfl
 | p::l,h=>by
   have h1:=h p (by simp);have h2:p.1≠n:=fun e=>by rw [e] at h1; exact cI _ h1
   have h3:¬ ji n p.1=true:=fun e=>cI _ (fW e h1);rw [cons_append,ins,am h2,am h3,tA fun q hq=>h q (by simp [hq])]
   rfl
end AF
section
variable {F:List aF} {h:Heap} {name:ByteArray}
theorem m4 {a:Option Addr} {n c f:Nat} {l:AF.bG} (U:AF.Up l) (hr:∀ h',aG F h'→cv h' a (l.flatMap cn)) (hl:l.length=n) (hm:n≤100000) (H:aG F h) :
  aE prog 121 [.slice a n c,.string name,.int .i64 (f:Int)] h (my (AF.ins name f l) F):=by
 apply Ac.ap
 unfold C7
 refine ⟨fun st hh=>∃ (i:Nat) (oa:Option Addr) (oc:Nat) (out:AF.bG) (dn:Bool),st=(⟨oa,out.length,oc⟩,dn,(i:Int))∧i≤n∧out.length≤i+1∧((dn=false∧(∀ p∈l.take i,AF.ji p.1 name=true)∧out=l.take i)∨(dn=true∧out++l.drop i=AF.ins name f l∧∀ p∈l.drop i,p.1≠name))∧
   aG (aQ 206 2 oa out.length oc (out.flatMap cn)::F) hh,
  fun st _=>((n:Int) - st.2.2).toNat,⟨0,none,0,[],false,rfl,aw _,aw _,.inl ⟨rfl,by simp,rfl⟩,bR 206 2 H⟩,?_⟩
 rintro st h1 ⟨i,oa,oc,out,dn,rfl,hi,hol,hcase,H1⟩
 dsimp only
 by_cases hlt:i<n
 · rw [ah (show ((i:Int)<(n:Int)) by omega),ae];obtain ⟨p,hp⟩:∃ p,l[i]? = some p:=⟨_,ai (by omega)⟩
   have hdrop:l.drop i=p::l.drop (i+1):=by
    have h5:=(ak.1 hp)
    rw [drop_eq_getElem_cons h5.1,h5.2]
   have htk:l.take (i+1)=l.take i++[p]:=by rw [az,hp]; rfl
   have wi:wrap .i64 ((i:Int)+1)=((i+1:Nat):Int):=aN (by omega);have htl:(l.take i).length=i:=by rw [au]; omega
   have hmeas:((n:Int) - ((i+1:Nat):Int)).toNat<((n:Int) - (i:Int)).toNat:=by omega
   have hU:∀ q∈l.drop (i+1),AF.ji p.1 q.1=true:=by
    have:=List.Pairwise.sublist (drop_sublist i l) U;rw [hdrop] at this;exact (List.pairwise_cons.1 this).1
   rcases hcase with ⟨rfl,hall,rfl⟩ | ⟨rfl,hins,hne⟩
   · rw [aC,ae];refine dp cd (by decide) (hr h1 H1.drop) hl hp fun b hb hc=>fE (hc 0 _ rfl) ?_;rw [AF.lS]
     cases hle:AF.ji p.1 name with
     | true=>
       rw [aB,ab];refine dp cd (by decide) (hr h1 H1.drop) hl hp fun b hb hc=>fE (hc 0 _ rfl) ?_;have hpn:p.1≠name:=fun e=>by rw [e] at hle; exact AF.cI _ hle
       rw [dL,af hpn,aC,ae,wi];refine dp cd (by decide) (hr h1 H1.drop) hl hp fun b hb hc=>⟨_,hc 0 _ rfl,_,hc 1 _ rfl,_,_,rfl,?_⟩
       refine g8 (f:=cn) (x:=p) wo mF mS cd (gD p) rfl rfl (by omega) H1 fun a' c' h2 H2=>?_;refine ⟨⟨i+1,a',c',l.take (i+1),false,by rw [htk,ao]; rfl,by omega,by rw [htk,ao,length_singleton]; omega,.inl ⟨rfl,fun q hq=>?_,rfl⟩,by rw [htk,ao]; exact H2⟩,hmeas⟩;rw [htk] at hq
       rcases List.mem_append.1 hq with hq | hq
       · exact hall q hq
       · rw [mem_singleton] at hq;rw [hq];exact hle
     | false=>
       rw [aC,ae];have hge:∀ q∈l.drop (i+1),q.1≠name:=by
        intro q hq e;have:=hU q hq;rw [e] at this;rw [this] at hle;cases hle
       have hin:AF.ins name f l=l.take i++((name,f)::((if p.1=name then [] else [p])++l.drop (i+1))):=by
        have e1:AF.ins name f l=AF.ins name f (l.take i++l.drop i):=by rw [take_append_drop]
        rw [e1,AF.tA hall,hdrop,AF.ins];by_cases e:p.1=name
        · rw [an e,an e]; rfl
        · rw [am e,am e,an (AF.iU e (by rw [hle]; simp))]; rfl
       refine g8 (f:=cn) (x:=(name,f)) wo mF mS cd (gD _) rfl rfl (by omega) H1 fun a' c' h2 H2=>?_;refine dp cd (by decide) (hr h2 H2.drop) hl hp fun b hb hc=>fE (hc 0 _ rfl) ?_;rw [dL];by_cases e:p.1=name
       · rw [ah e,aB,ab,wi];rw [an e,nil_append] at hin;refine ⟨⟨i+1,a',c',l.take i++[(name,f)],true,by rw [ao]; rfl,by omega,by rw [ao,length_singleton]; omega,.inr ⟨rfl,by rw [hin,append_assoc]; rfl,hge⟩,by rw [ao]; exact H2⟩,hmeas⟩
       · rw [af e,aC,ae,wi];rw [am e] at hin;refine dp cd (by decide) (hr h2 H2.drop) hl hp fun b hb hc=>⟨_,hc 0 _ rfl,_,hc 1 _ rfl,_,_,rfl,?_⟩
         refine g8 (f:=cn) (x:=p) wo mF mS cd (gD p) rfl (by rw [ao]; rfl) (by omega) H2 fun a2 c2 h3 H3=>?_;refine ⟨⟨i+1,a2,c2,l.take i++[(name,f)]++[p],true,by rw [ao,ao]; rfl,by omega,by rw [ao,ao,length_singleton,length_singleton]; omega,.inr ⟨rfl,by rw [hin,append_assoc,append_assoc]; rfl,hge⟩,by rw [ao,ao]; exact H3⟩,hmeas⟩
   · rw [aB,ab];have hpn:p.1≠name:=hne p (by rw [hdrop]; simp);refine dp cd (by decide) (hr h1 H1.drop) hl hp fun b hb hc=>fE (hc 0 _ rfl) ?_;rw [dL,af hpn,aC,ae,wi];refine dp cd (by decide) (hr h1 H1.drop) hl hp fun b hb hc=>⟨_,hc 0 _ rfl,_,hc 1 _ rfl,_,_,rfl,?_⟩
     refine g8 (f:=cn) (x:=p) wo mF mS cd (gD p) rfl rfl (by omega) H1 fun a' c' h2 H2=>?_;refine ⟨⟨i+1,a',c',out++[p],true,by rw [ao]; rfl,by omega,by rw [ao,length_singleton]; omega,.inr ⟨rfl,by rw [← hins,hdrop,append_assoc]; rfl,fun q hq=>hne q (by rw [hdrop]; simp [hq])⟩,by rw [ao]; exact H2⟩,hmeas⟩
 · rw [af (by omega),ab]
   rcases hcase with ⟨rfl,hall,rfl⟩ | ⟨rfl,hins,hne⟩
   · rw [aC,ae];have et:l.take i=l:=av (by omega);rw [et] at hall H1 hol ⊢;have hin:AF.ins name f l=l++[(name,f)]:=AF.vJ hall;refine g8 (f:=cn) (x:=(name,f)) wo mF mS cd (gD _) rfl rfl (by omega) H1 fun a' c' h2 H2=>?_;refine ⟨a',c',by rw [hin,ao]; rfl,?_⟩;rw [hin,ao];exact H2
   · rw [aB,ab];rw [List.drop_eq_nil_of_le (by omega),append_nil] at hins;subst hins;exact ⟨oa,oc,rfl,H1⟩
def yF (l:AF.bG):AF.Op→Prop
 | .rename a b=>(AF.of l a).isSome=true
 | _=>True
theorem rD {a:Option Addr} {n c:Nat} {l:AF.bG} {o:AF.Op} (U:AF.Up l) (hf:yF l o) (hr:∀ h',aG F h'→cv h' a (l.flatMap cn)) (hl:l.length=n) (hm:n≤100000) (H:aG F h) :
  aE prog 119 [.slice a n c,.agg (mN o).toArray] h (my (AF.does l o) F):=by
 have fin:∀ {l':AF.bG} {G:List aF} {K:Value→Heap→Prop} {v:Value} {h':Heap},my l' G v h'→(∀ (a':Option Addr) (c':Nat),v=.slice a' l'.length c'→aG (aQ 206 2 a' l'.length c' (l'.flatMap cn)::G) h'→K v h')→K v h':=by
  rintro l' G K v h' ⟨a',c',hv,H'⟩ hK;exact hK a' c' hv H'
 cases o with
 | create nm f=>
   refine pX (o0:=1) (o1:=nm) (o2:=.empty) (o3:=(f:Int)) ?_;unfold uo;refine aW H fun b0 h1 H1=>?_;refine bM (x:=(1:Int)) H1 rfl ?_;rw [show ((1:Int)==1)=true from rfl,ae];refine bz H1 rfl ?_;refine bM (x:=(f:Int)) H1 rfl ?_;refine (m4 U (fun h' hh=>hr h' hh.drop) hl hm H1).mono ?_;rintro v h2 ⟨a',c',rfl,H2⟩;rw [aI];exact ⟨a',c',rfl,(H2.mv 1).drop⟩
 | rename x y=>
   refine pX (o0:=2) (o1:=x) (o2:=y) (o3:=0) ?_;unfold uo;refine aW H fun b0 h1 H1=>?_;refine bM (x:=(2:Int)) H1 rfl ?_;rw [show ((2:Int)==1)=false from rfl,ab,show ((2:Int)==2)=true from rfl,ae];refine bz H1 rfl ?_;refine (ir (hr _ H1.drop) hl (by omega)).mono ?_;rintro v h2 ⟨rfl,rfl⟩;rw [aL];refine bz H1 rfl ?_;refine bz H1 rfl ?_;refine (rv (fun h' hh=>hr h' hh.drop) hl hm H1).mono ?_;rintro v h3 ⟨a',c',rfl,H3⟩;rw [aI];refine ⟨rfl,bz (H3.mv 1) rfl rfl,rfl,?_⟩;have hdl:(AF.drop l x).length≤100000:=by
    have:=length_filter_le (fun p:ByteArray×Nat => !decide (p.1=x)) l;unfold AF.drop;omega
   cases ho:AF.of l x with
   | none=>
     have:(AF.of l x).isSome=true:=hf;rw [ho] at this;cases this
   | some k=>
     refine (m4 (f:=k) (AF.Up.drop U x) (fun h' hh=>aH hh) rfl hdl H3).mono ?_;rintro v h4 ⟨a2,c2,rfl,H4⟩;rw [aI];have e:AF.does l (.rename x y)=AF.ins y k (AF.drop l x):=by
      show (match AF.of l x with
       | some f=>AF.ins y f (AF.drop l x)
       | none=>AF.drop l x)=_
      rw [ho]
     rw [e];exact ⟨a2,c2,rfl,H4.ordT 3 [0]⟩
 | remove x=>
   refine pX (o0:=3) (o1:=x) (o2:=.empty) (o3:=0) ?_;unfold uo;refine aW H fun b0 h1 H1=>?_;refine bM (x:=(3:Int)) H1 rfl ?_;rw [show ((3:Int)==1)=false from rfl,ab,show ((3:Int)==2)=false from rfl,ab];refine bz H1 rfl ?_;refine (rv (fun h' hh=>hr h' hh.drop) hl hm H1).mono ?_;rintro v h3 ⟨a',c',rfl,H3⟩;rw [aI];exact ⟨a',c',rfl,(H3.mv 1).drop⟩
end
theorem Fc:prog.underlying 142=some (.slice 197):=by kernel_rfl
theorem yj:d8 prog 142=true:=by kernel_rfl
theorem yR:gi prog 197 4 48=true:=by kernel_rfl
theorem tj (o:AF.Op):∀ u∈mN o,u.oneCell'=true:=by
 intro u hu
 cases o <;> (simp [mN] at hu; rcases hu with rfl | rfl | rfl | rfl <;> rfl)
theorem wI (l:List AF.Op):∀ u∈l.flatMap mN,u.oneCell'=true:=by
 intro u hu
 obtain ⟨o,_,ho⟩:=List.mem_flatMap.1 hu
 exact tj o u ho
theorem o8 {α β:Type} {E:α→β→aF} {xs:List α} {ys:List β} {F:List aF} {h:Heap} {i:Nat} {x:α} {y:β} (hi:i<xs.length) (hj:i<ys.length) (H:aG (E x y::qe E xs ys i::F) h):aG (bP (zipWith E (xs.set i x) (ys.set i y))::F) h:=by
 have e:(zipWith E xs ys).set i (E x y)=zipWith E (xs.set i x) (ys.set i y):=by
  apply List.ext_getElem?;intro j;rw [getElem?_set];simp only [getElem?_zipWith,getElem?_set];by_cases hij:i=j
  · subst hij;rw [an rfl,an rfl,an rfl,an hi,an hj,an (by rw [length_zipWith]; omega)]
  · rw [am hij,am hij,am hij]
 have H2:aG (E x y::((zipWith E xs ys).eraseIdx i++F)) h:=(H.mv 1).open |> fun hh=>by
  have h3:aG ((zipWith E xs ys).eraseIdx i++E x y::F) h:=hh;have h4:=(h3.shut.mv 1)
  have h5:aG (E x y::bP ((zipWith E xs ys).eraseIdx i)::F) h:=h4;obtain ⟨r,hr,hs⟩:=h5;exact ⟨r,cY (fun _ h=>h) (fun _ h=>bQ.2 h) hr,hs⟩
 have H3:=H2.unfocus (by rw [length_zipWith]; omega)
 rw [e] at H3
 exact H3.shut
theorem vq {α β:Type} (xs:List α) (ys:List β) (i:Nat) (x:α) (y:β):(xs.zip ys).set i (x,y)=(xs.set i x).zip (ys.set i y):=by
 apply List.ext_getElem?
 intro j
 rw [getElem?_set]
 simp only [zip_eq_zipWith,getElem?_zipWith,getElem?_set]
 by_cases hij:i=j
 · subst hij;rw [an rfl,an rfl,an rfl];by_cases h1:i<xs.length
   · by_cases h2:i<ys.length
     · rw [an h1,an h2,an (by rw [length_zipWith]; omega)]
     · rw [an h1,am h2,am (by rw [length_zipWith]; omega)]
   · rw [am h1,am (by rw [length_zipWith]; omega)]
 · rw [am hij,am hij,am hij]
abbrev fQ (m:Nat) (A:AF.FS) (q:g5) (F:List aF) (h:Heap):Prop:=aG (pt m (.cells (fi A q) 109 (0,0))::cF A q::dF A q::cp A q::F) h
section
variable {m i:Nat} {A:AF.FS} {q:g5} {d d':AF.cu} {x x':gt} {F:List aF} {h:Heap}
theorem pd {G:aF} (hd:A.dirs[i]? = some d) (hx:q.qs[i]? = some x) (hP:∀ F',aG (cW d x::G::F') h→aG (cW d' x'::F') h) (H:aG (cp A q::G::F) h) :
  aG (bP (zipWith cW (A.dirs.set i d') (q.qs.set i x'))::F) h:=by
 have H2:=gU H hd hx
 have H3:=hP _ (H2.ordT 3 [0,2,1])
 exact o8 (ak.1 hd).1 (ak.1 hx).1 H3
theorem ke {j:Nat} {v:Value} {K:Heap→Prop} (hq:q.qs.length=A.dirs.length) (hd:A.dirs[i]? = some d) (hx:q.qs[i]? = some x) (hj:j<4) (hc:(eS (d,x)).set j v=eS (d',x'))
  (H:aG (pt m (.cells (fi A q) 109 (0,0))::cF A q::dF A q::bP (zipWith cW (A.dirs.set i d') (q.qs.set i x'))::F) h) (hK:∀ h',fQ m { A with dirs:=A.dirs.set i d' } { q with qs:=q.qs.set i x' } F h'→K h') :
  aO q.da A.dirs.length (i:Int) 4 fun a=>bN h ((a.add j).add 0) v K:=by
 have hz:(A.dirs.zip q.qs)[i]? = some (d,x):=by rw [zip_eq_zipWith,getElem?_zipWith,hd,hx]
 refine dp cD (by decide) (aH (H.mv 2)) (ib hq) hz fun b hb _=>?_
 have H2:=H.mv 2
 unfold dF at H2
 rw [hb] at H2
 refine oR (d',x') cD H2 hz hj hc fun h' H'=>hK h' ?_
 rw [vq,← hb] at H'
 have H3:=H'.ordT 3 [1,2,0]
 unfold fQ cF dF cp fi at *
 dsimp only at *
 rw [length_set]
 exact H3
end
theorem Ds (o:AF.Op):∃ (o0:Int) (o1 o2:ByteArray) (o3:Int),mN o=[.int .i64 o0,.string o1,.string o2,.int .i64 o3]:=by cases o <;> exact ⟨_,_,_,_,rfl⟩
section
variable {m i:Nat} {A:AF.FS} {q:g5} {d d':AF.cu} {x x':gt} {F:List aF} {h:Heap}
theorem qN {l':AF.bG} {a':Option Addr} {c':Nat} (hd:A.dirs[i]? = some d) (hx:q.qs[i]? = some x) (H:aG (cp A q::jH a' (l'.flatMap cn)::F) h) :
  aG (bP (zipWith cW (A.dirs.set i { d with now:=l' }) (q.qs.set i { x with na:=a',nc:=c' }))::F) h:=by
 refine pd hd hx (fun F' H'=>?_) H
 have H2:=H'.open
 exact aG.shut (m:=[jH a' (l'.flatMap cn),jH x.ba (d.base.flatMap cn),jH x.pa (d.pend.flatMap mN)]) (H2.ordT 4 [3,1,2])
theorem uP {l':List AF.Op} {a':Option Addr} {c':Nat} (hd:A.dirs[i]? = some d) (hx:q.qs[i]? = some x) (H:aG (cp A q::jH a' (l'.flatMap mN)::F) h) :
  aG (bP (zipWith cW (A.dirs.set i { d with pend:=l' }) (q.qs.set i { x with pa:=a',pc:=c' }))::F) h:=by
 refine pd hd hx (fun F' H'=>?_) H
 have H2:=H'.open
 exact aG.shut (m:=[jH x.na (d.now.flatMap cn),jH x.ba (d.base.flatMap cn),jH a' (l'.flatMap mN)]) (H2.ordT 4 [0,1,3])
theorem gL {α:Type} {l:List α} {i:Nat} {x y:α} (h:l[i]? = some x):(l.set i y)[i]? = some y:=by
 rw [getElem?_set,an rfl,an (ak.1 h).1]
theorem gx {g:AF.FS→AF.FS} (h:A.fuse≠some 0):A.step g=(g A.stepOn,0):=by
 unfold AF.FS.step
 rw [am h]
theorem iy {g:AF.FS→AF.FS} (h:A.fuse=some 0):A.step g=({ A with off:=true },60):=by
 unfold AF.FS.step
 rw [an h]
theorem m6 {o:AF.Op} {o0 o3:Int} {o1 o2:ByteArray} (ho:mN o=[.int .i64 o0,.string o1,.string o2,.int .i64 o3]) (W:A.WF) (hs:A.steps<1099511627776) (hd:A.dirs[i]? = some d) (hf:yF d.now o) (H:aG (bd m A::F) h) :
  aE prog 116 [aM m,.int .i64 (i:Int),.agg #[.int .i64 o0,.string o1,.string o2,.int .i64 o3]] h fun v h'=>v=.int .i64 ((A.step fun g=>g.did i o).2:Int)∧aG (bd m (A.step fun g=>g.did i o).1::F) h':=by
 apply Ah.ap
 unfold Da
 refine aW H fun b0 h1 H1=>?_
 refine (jG W hs (H1.mv 1)).mono ?_
 rintro v h2 (⟨hfu,rfl,H2⟩ | ⟨hfu,rfl,H2⟩)
 · rw [aL,show ((60:Int)==0)=false from rfl,ab,iy hfu];exact ⟨rfl,(H2.mv 1).drop⟩
 rw [aL,show ((0:Int)==0)=true from rfl,ae,gx hfu]
 have hWd:=W.each d (aj hd)
 have hnl:=hWd.ok.few
 have hpl:=hWd.pend
 obtain ⟨q,hq,H3⟩:=bS H2
 have hd2:A.stepOn.dirs[i]? = some d:=hd
 have hdl:A.stepOn.dirs.length=A.dirs.length:=rfl
 obtain ⟨x,hx,hz,hrn,_,_⟩:=cL hq hd2 (H3.mv 3 |>.mv 3)
 simp only [aK]
 refine bH (a:=q.da) (l:=A.dirs.length) (m:=q.dc) H3 rfl ?_
 refine bH (a:=q.da) (l:=A.dirs.length) (m:=q.dc) H3 rfl ?_
 refine dp cD (by decide) (aH (H3.mv 2)) (ib hq) hz fun b hb hc=>p5 (hc 1 _ rfl) ?_
 have B0:=H3.mv 4
 refine ⟨_,cg B0 rfl,_,cg B0 rfl,_,cg B0 rfl,_,cg B0 rfl,_,_,_,_,rfl,?_⟩
 have e118:Value.agg #[.int .i64 o0,.string o1,.string o2,.int .i64 o3]=.agg (mN o).toArray:=by rw [ho]
 rw [e118]
 refine (rD hWd.ok.up hf (fun h' hh=>by
  obtain ⟨x',hx',_,hr,_,_⟩:=cL hq hd2 (hh.mv 3 |>.mv 3);rw [hx] at hx';cases hx';exact hr) rfl (by omega) H3).mono ?_
 rintro v h3 ⟨na,nc,rfl,H4⟩
 rw [aI]
 refine ⟨rfl,rfl,rfl,bH (a:=q.da) (l:=A.dirs.length) (m:=q.dc) (H4.mv 1) rfl rfl,rfl,?_⟩
 have H5:=(rP H4).ordT 6 [4,0,1,2,3,5]
 have H6:=qN (A:=A.stepOn) (c':=nc) hd2 hx H5
 refine ke (A:=A.stepOn) (m:=m) (d':={ d with now:=AF.does d.now o }) (x':={ x with na:=na,nc:=nc }) hq hd2 hx (by decide) rfl (H6.ordT 4 [1,2,3,0]) fun h4 H7=>?_
 have hd3:=gL (y:={ d with now:=AF.does d.now o }) hd2
 have hx3:=gL (y:={ x with na:=na,nc:=nc }) hx
 have hq3:(q.qs.set i { x with na:=na,nc:=nc }).length=(A.stepOn.dirs.set i { d with now:=AF.does d.now o }).length:=by rw [length_set,length_set,hq]
 generalize hA3:({ A.stepOn with dirs:=A.stepOn.dirs.set i { d with now:=AF.does d.now o } }:AF.FS)=A3 at H7
 generalize hQ3:({ q with qs:=q.qs.set i { x with na:=na,nc:=nc } }:g5)=q3 at H7
 have hd4:A3.dirs[i]? = some { d with now:=AF.does d.now o }:=by rw [← hA3]; exact hd3
 have hx4:q3.qs[i]? = some { x with na:=na,nc:=nc }:=by rw [← hQ3]; exact hx3
 have hq4:q3.qs.length=A3.dirs.length:=by rw [← hA3,← hQ3]; exact hq3
 have hz4:(A3.dirs.zip q3.qs)[i]? = some ({ d with now:=AF.does d.now o },{ x with na:=na,nc:=nc }):=by rw [zip_eq_zipWith,getElem?_zipWith,hd4,hx4]
 have hda:q3.da=q.da:=by rw [← hQ3]
 have hB:∀ {h':Heap} {G:List aF},fQ m A3 q3 G h'→Ld h' ((⟨m,0,none⟩:Addr).add 5) fun v=>aZ v fun a l c=>aJ (some (.slice q3.da A3.dirs.length q3.dc)) (.slice a l c):=fun H'=>bH (a:=q3.da) (l:=A3.dirs.length) (m:=q3.dc) H' rfl rfl
 refine bH (a:=q3.da) (l:=A3.dirs.length) (m:=q3.dc) H7 rfl ?_
 refine bH (a:=q3.da) (l:=A3.dirs.length) (m:=q3.dc) H7 rfl ?_
 refine dp cD (by decide) (aH (H7.mv 2)) (ib hq4) hz4 fun b hb hc=>p5 (hc 3 _ rfl) ?_
 have hC:∀ {h':Heap} {G:List aF},fQ m A3 q3 G h'→Ld h' ((b.add (i*4)).add 3) fun v=>aZ v fun a l c=>aJ (some (.slice x.pa d.pend.length x.pc)) (.slice a l c):=fun H'=>by
  have hr:=aH (H'.mv 2);rw [hb] at hr;exact p5 (FJ cD hr hz4 (j:=3) rfl) rfl
 have hI:∀ {h':Heap} {G:List aF},fQ m A3 q3 G h'→aO q3.da A3.dirs.length (i:Int) 4 fun a10=>aJ (some (.pointer (some (b.add (i*4))))) (.pointer (some a10)):=fun H'=>
  dp cD (by decide) (aH (H'.mv 2)) (ib hq4) hz4 fun b' hb' _=>by
   rw [hb] at hb';cases hb'
   rfl
 have hRp:∀ {h':Heap} {G:List aF},fQ m A3 q3 G h'→cv h' x.pa (d.pend.flatMap mN):=fun H'=>by
  obtain ⟨x',hx',_,_,_,hr⟩:=cL hq4 hd4 (H'.mv 3 |>.mv 3);rw [hx4] at hx';cases hx';exact hr
 have B1:=H7.mv 4
 refine ⟨_,cg B1 rfl,_,cg B1 rfl,_,cg B1 rfl,_,cg B1 rfl,_,_,_,_,rfl,?_⟩
 have tail:∀ (a':Option Addr) (c':Nat) (h':Heap) (G:List aF),aG (aQ 197 4 a' (d.pend++[o]).length c' ((d.pend++[o]).flatMap mN)::pt m (.cells (fi A3 q3) 109 (0,0))::cF A3 q3::dF A3 q3::cp A3 q3::G) h'→(∀ h'',aG (bd m (A.stepOn.did i o)::G) h''→aG (bd m (A.stepOn.did i o)::F) h'')→
   aO q3.da A3.dirs.length (i:Int) 4 fun a16=>bN h' ((a16.add 3).add 0) (.slice a' (d.pend++[o]).length c') fun h_10=>
    (fun v h'=>v=Value.int .i64 ((A.stepOn.did i o,0).2:Int)∧aG (bd m (A.stepOn.did i o,0).1::F) h') (.int .i64 0) h_10:=by
  intro a' c' h' G HH hG;have K1:=(rP HH).ordT 5 [4,0,1,2,3];have K2:=uP (c':=c') hd4 hx4 K1;refine ke (A:=A3) (q:=q3) (m:=m) (F:=G) (d':=(⟨d.name,AF.does d.now o,d.base,d.pend++[o]⟩:AF.cu)) (x':=(⟨na,nc,x.ba,x.bc,a',c'⟩:gt)) hq4 hd4 hx4 (by decide) rfl (K2.ordT 4 [1,2,3,0]) fun h5 K3=>?_;refine ⟨rfl,hG h5 ?_⟩;have eA:({ A3 with dirs:=A3.dirs.set i (⟨d.name,AF.does d.now o,d.base,d.pend++[o]⟩:AF.cu) }:AF.FS)=A.stepOn.did i o:=by
   rw [← hA3];unfold AF.FS.did AF.FS.setDir;dsimp only;rw [set_set,cT (fun d=>d.did o) hd2]
   rfl
  unfold fQ at K3;rw [eA] at K3;refine dg (q:={ q3 with qs:=q3.qs.set i (⟨na,nc,x.ba,x.bc,a',c'⟩:gt) }) ?_ K3;rw [← eA];show (q3.qs.set i _).length=(A3.dirs.set i _).length;rw [length_set,length_set,hq4]
 have app1:∀ {b1:Nat} {h':Heap} {G:List aF} {K:Value→Heap→Prop},aG (pt b1 (.cells #[] 197 (0,0))::pt m (.cells (fi A3 q3) 109 (0,0))::cF A3 q3::dF A3 q3::cp A3 q3::G) h'→
   (∀ a' c' h'',aG (aQ 197 4 a' d.pend.length c' (d.pend.flatMap mN)::pt m (.cells (fi A3 q3) 109 (0,0))::cF A3 q3::dF A3 q3::cp A3 q3::G) h''→K (.slice a' d.pend.length c') h'')→
   bB prog (append_ #[142,142] 142 #[.slice (some (Addr.mk b1 0 none)) 0 0,.slice x.pa d.pend.length x.pc]) h' K:=by
  intro b1 h' G K HH hK;have K1:aG (aQ 197 4 (some ⟨b1,0,none⟩) 0 0 []::pt m (.cells (fi A3 q3) 109 (0,0))::cF A3 q3::dF A3 q3::cp A3 q3::G) h':=fe HH (eD _) (ax _) (aw _) rfl rfl;refine gP Fc yj yR K1 (n:=d.pend.length) (bJ (hRp K1.drop) (mp rY _)) (wI _) (by omega) fun a' c' h'' _ K2=>?_;rw [Nat.zero_add] at K2 ⊢;exact hK a' c' h'' K2
 have app2:∀ {b2:Nat} {a:Option Addr} {c:Nat} {h':Heap} {G:List aF} {K:Value→Heap→Prop},aG (pt b2 (.cells #[.int .i64 o0,.string o1,.string o2,.int .i64 o3] 197 (0,0))::aQ 197 4 a d.pend.length c (d.pend.flatMap mN)::G) h'→
   (∀ a' c' h'',aG (aQ 197 4 a' (d.pend++[o]).length c' ((d.pend++[o]).flatMap mN)::pt b2 (.cells #[.int .i64 o0,.string o1,.string o2,.int .i64 o3] 197 (0,0))::G) h''→K (.slice a' (d.pend++[o]).length c') h'')→
   bB prog (append_ #[142,142] 142 #[.slice a d.pend.length c,.slice (some (Addr.mk b2 0 none)) 1 1]) h' K:=by
  intro b2 a c h' G K HH hK;refine gP Fc yj yR (HH.mv 1) (n:=1) (ys:=mN o) (bJ (ge HH (by rw [ho])) (by rw [rY])) (tj o) (by omega) fun a' c' h'' _ K2=>?_;have e1:d.pend.flatMap mN++mN o=(d.pend++[o]).flatMap mN:=by rw [flatMap_append,flatMap_cons,List.flatMap_nil,append_nil]
  have e2:d.pend.length+1=(d.pend++[o]).length:=by rw [ao,length_singleton]
  rw [e1,e2] at K2;rw [e2];exact hK a' c' h'' K2
 refine ⟨?_,?_⟩
 · -- the empty list first
   refine aW H7 fun b1 h5 H8=>?_;have R8:=H8.drop;refine ⟨rfl,rfl,rfl,hB R8,rfl,rfl,rfl,rfl,hB R8,rfl,hI R8,rfl,hC R8,⟨_,cg (R8.mv 4) rfl,_,cg (R8.mv 4) rfl,_,cg (R8.mv 4) rfl,_,cg (R8.mv 4) rfl,_,_,_,_,rfl,rfl⟩,?_,?_⟩
   · refine app1 H8 fun a' c' h6 H9=>?_;rw [aI];have R9:=H9.drop;refine ⟨rfl,rfl,rfl,hB R9,rfl,⟨_,cg (R9.mv 4) rfl,_,cg (R9.mv 4) rfl,_,cg (R9.mv 4) rfl,_,cg (R9.mv 4) rfl,_,_,_,_,rfl,rfl⟩,?_⟩;refine aW H9 fun b2 h7 H10=>?_;have R10:=H10.drop.drop;refine ⟨rfl,rfl,rfl,hB R10,rfl,rfl,rfl,rfl,hB R10,rfl,hI R10,rfl,hC R10,?_⟩;refine app2 H10 fun a2 c2 h8 H11=>?_;rw [aI];have R11:=H11.drop.drop;refine ⟨rfl,rfl,rfl,hB R11,rfl,?_⟩;exact tail a2 c2 h8 (pt b0 (.cells #[.int .i64 o0,.string o1,.string o2,.int .i64 o3] 197 (0,0))::F) (H11.ordT 7 [0,2,3,4,5,6]) fun h'' K=>(K.mv 1).drop
   · refine aW H8 fun b3 h6 H9=>?_;have R9:=H9.drop.drop;refine ⟨rfl,rfl,rfl,hB R9,rfl,rfl,rfl,rfl,hB R9,rfl,hI R9,rfl,hC R9,?_⟩;refine app1 (G:=pt b0 (.cells #[.int .i64 o0,.string o1,.string o2,.int .i64 o3] 197 (0,0))::pt b3 (.cells #[.int .i64 o0,.string o1,.string o2,.int .i64 o3] 197 (0,0))::F) (H9.ordT 7 [1,2,3,4,5,6,0]) fun a' c' h7 H10=>?_;rw [aI];have R10:=H10.drop;refine ⟨rfl,rfl,rfl,hB R10,rfl,⟨_,cg (R10.mv 4) rfl,_,cg (R10.mv 4) rfl,_,cg (R10.mv 4) rfl,_,cg (R10.mv 4) rfl,_,_,_,_,rfl,rfl⟩,?_⟩;refine app2 (H10.ordT 7 [6,0,1,2,3,4,5]) fun a2 c2 h8 H11=>?_;rw [aI];have R11:=H11.drop.drop;refine ⟨rfl,rfl,rfl,hB R11,rfl,?_⟩;exact tail a2 c2 h8 (pt b0 (.cells #[.int .i64 o0,.string o1,.string o2,.int .i64 o3] 197 (0,0))::F) (H11.ordT 7 [0,2,3,4,5,6]) fun h'' K=>(K.mv 1).drop
 · refine aW H7 fun b4 h5 H8=>?_;have R8:=H8.drop;refine ⟨rfl,rfl,rfl,hB R8,rfl,rfl,rfl,rfl,hB R8,rfl,hI R8,rfl,hC R8,?_⟩;refine aW H8 fun b5 h6 H9=>?_;have R9:=H9.drop.drop;refine ⟨rfl,rfl,rfl,hB R9,rfl,rfl,rfl,rfl,hB R9,rfl,hI R9,rfl,hC R9,⟨_,cg (R9.mv 4) rfl,_,cg (R9.mv 4) rfl,_,cg (R9.mv 4) rfl,_,cg (R9.mv 4) rfl,_,_,_,_,rfl,rfl⟩,?_⟩;refine app1 (G:=pt b0 (.cells #[.int .i64 o0,.string o1,.string o2,.int .i64 o3] 197 (0,0))::pt b4 (.cells #[.int .i64 o0,.string o1,.string o2,.int .i64 o3] 197 (0,0))::F) (H9.ordT 7 [0,2,3,4,5,6,1]) fun a' c' h7 H10=>?_;rw [aI];have R10:=H10.drop;refine ⟨rfl,rfl,rfl,hB R10,rfl,⟨_,cg (R10.mv 4) rfl,_,cg (R10.mv 4) rfl,_,cg (R10.mv 4) rfl,_,cg (R10.mv 4) rfl,_,_,_,_,rfl,rfl⟩,?_⟩;refine app2 (H10.ordT 7 [6,0,1,2,3,4,5]) fun a2 c2 h8 H11=>?_;rw [aI];have R11:=H11.drop.drop;refine ⟨rfl,rfl,rfl,hB R11,rfl,?_⟩;exact tail a2 c2 h8 (pt b0 (.cells #[.int .i64 o0,.string o1,.string o2,.int .i64 o3] 197 (0,0))::F) (H11.ordT 7 [0,2,3,4,5,6]) fun h'' K=>(K.mv 1).drop
end
theorem uK (a b:List Nat):dW (a++b)=dW a++dW b:=by
 unfold dW
 rw [map_append]
 apply ByteArray.ext
 rw [ByteArray.data_append]
 simp
theorem HL:prog.underlying 106=some (.slice 199):=by kernel_rfl
theorem Dm:d8 prog 106=true:=by kernel_rfl
theorem DD:gi prog 199 2 24=true:=by kernel_rfl
theorem tG (x:AF.cV):∀ u∈ko x,u.oneCell'=true:=by
 intro u hu
 simp [ko] at hu
 rcases hu with rfl | rfl <;> rfl
theorem sO (l:List Nat) (i:Nat):(l.take i).sum≤l.sum:=by
 have:l.sum=(l.take i).sum+(l.drop i).sum:=by rw [← sum_append,take_append_drop]
 omega
section
variable {m i:Nat} {A:AF.FS} {q:g5} {d d':AF.cu} {x x':gt} {F:List aF} {h:Heap} {dir name:ByteArray}
theorem ju {j k:Nat} {v:Value} {y y':AF.cV} {K:Heap→Prop} (hy:A.files[k]? = some y) (hj:j<2) (hc:(ko y).set j v=ko y') (H:fQ m A q F h) (hK:∀ h',fQ m { A with files:=A.files.set k y' } q F h'→K h') :
  aO q.fa A.files.length (k:Int) 2 fun a=>bN h ((a.add j).add 0) v K:=by
 refine dp jS (by decide) (aH (H.mv 1)) rfl hy fun b hb _=>?_
 have H2:=H.mv 1
 unfold cF at H2
 rw [hb] at H2
 refine oR y' jS H2 hy hj hc fun h' H'=>hK h' ?_
 rw [← hb] at H'
 have H3:=H'.ordT 2 [1,0]
 unfold fQ cF dF cp fi at *
 dsimp only at *
 rw [length_set]
 exact H3
theorem dk {k:Nat} {y:AF.cV} {K:Addr→Prop} (hy:A.files[k]? = some y) (H:fQ m A q F h) (hK:∀ b,bI h (b.add 0)=some (.string (dW y.b))→bI h (b.add 1)=some (.int .i64 (y.safe:Int))→K b):aO q.fa A.files.length (k:Int) 2 K:=
 dp jS (by decide) (aH (H.mv 1)) rfl hy fun b hb hc=>hK _ (hc 0 _ rfl) (hc 1 _ rfl)
theorem ce {K:Addr→Prop} (hq:q.qs.length=A.dirs.length) (hd:A.dirs[i]? = some d) (hx:q.qs[i]? = some x) (H:fQ m A q F h)
  (hK:∀ b,(∀ j v,(eS (d,x))[j]? = some v→bI h (b.add j)=some v)→K b):aO q.da A.dirs.length (i:Int) 4 K:=
 dp cD (by decide) (aH (H.mv 2)) (ib hq) (by rw [zip_eq_zipWith,getElem?_zipWith,hd,hx]) fun b hb hc=>hK _ hc
theorem eO (hq:q.qs.length=A.dirs.length) (hd:A.dirs[i]? = some d) (hx:q.qs[i]? = some x) (H:fQ m A q F h):cv h x.na (d.now.flatMap cn)∧cv h x.ba (d.base.flatMap cn)∧cv h x.pa (d.pend.flatMap mN):=by
 obtain ⟨x',hx',_,h1⟩:=cL hq hd (H.mv 3 |>.mv 3)
 rw [hx] at hx'
 cases hx'
 exact h1
theorem zC {n:Int} (H:aG (bd m A::F) h):aE prog 68 [aM m,.int .i64 n] h fun v h'=>v=.int .i64 ((A.setRoom n).2:Int)∧aG (bd m (A.setRoom n).1::F) h':=by
 apply Bw.ap
 unfold Gg AF.FS.setRoom
 by_cases h1:n<0
 · rw [ah h1,ae,an (.inl h1)];exact ⟨rfl,H⟩
 · rw [af h1,ab];by_cases h2:1073741824<n
   · rw [ah (show n>1073741824 from h2),ae,an (.inr h2)];exact ⟨rfl,H⟩
   · rw [af (show ¬ n>1073741824 from h2),ab,am (by omega)];obtain ⟨q,hq,H1⟩:=bS H;rw [aK,aP];refine ct (c':=fi { A with room:=n.toNat } q) H1 (by show 0<6; decide) (by show _=(#[.int .i64 ((n.toNat:Nat):Int),.int .i64 (A.steps:Int),.int .i64 (dP A.fuse),.bool A.off,.slice q.fa A.files.length q.fc,.slice q.da A.dirs.length q.dc]:Array Value); rw [Int.toNat_of_nonneg (by omega)]; rfl) fun h2 H2=>?_;exact ⟨rfl,dg (A:={ A with room:=n.toNat }) hq H2⟩
theorem zB {n:Int} (H:aG (bd m A::F) h):aE prog 69 [aM m,.int .i64 n] h fun v h'=>v=.int .i64 ((A.setFuse n).2:Int)∧aG (bd m (A.setFuse n).1::F) h':=by
 apply Bv.ap
 unfold Gf AF.FS.setFuse
 by_cases h1:n<0
 · rw [ah h1,ae,an h1];exact ⟨rfl,H⟩
 · rw [af h1,ab,am h1];obtain ⟨q,hq,H1⟩:=bS H;rw [aK,aP];refine ct (c':=fi { A with fuse:=some n.toNat } q) H1 (by show 2<6; decide) (by show _=(#[.int .i64 (A.room:Int),.int .i64 (A.steps:Int),.int .i64 ((n.toNat:Nat):Int),.bool A.off,.slice q.fa A.files.length q.fc,.slice q.da A.dirs.length q.dc]:Array Value); rw [Int.toNat_of_nonneg (by omega)]; rfl) fun h2 H2=>?_;exact ⟨rfl,dg (A:={ A with fuse:=some n.toNat }) hq H2⟩
theorem tZ (W:A.WF) (H:aG (bd m A::F) h):aE prog 74 [aM m] h fun v h'=>v=.int .i64 (A.used:Int)∧h'=h:=by
 apply Bq.ap
 unfold Gb
 obtain ⟨q,hq,H1⟩:=bS H
 have hle:=W.used_le
 have hfew:=W.few
 simp only [aK]
 let len:Nat→Nat:=fun x=>(A.X x).b.length
 let uS:Nat→Nat:=fun i=>(((A.dirs.take i).flatMap fun (d:AF.cu)=>d.now.map (·.2)).map len).sum
 have hfull:uS A.dirs.length=A.used:=by
  show (((A.dirs.take A.dirs.length).flatMap fun (d:AF.cu)=>d.now.map (·.2)).map len).sum=_;rw [take_length]
  rfl
 have hsucc:∀ (i:Nat) (d:AF.cu),A.dirs[i]? = some d→uS (i+1)=uS i+(d.now.map fun (p:ByteArray×Nat)=>len p.2).sum:=by
  intro i d hd;show (((A.dirs.take (i+1)).flatMap fun (d:AF.cu)=>d.now.map (·.2)).map len).sum=_;rw [az,hd,flatMap_append,map_append,sum_append];show _+((d.now.map (fun (p:ByteArray×Nat)=>p.2)++[]).map len).sum=_;rw [append_nil,map_map]
  rfl
 have hmono:∀ i,uS i≤A.used:=by
  intro i;rw [← hfull];show (((A.dirs.take i).flatMap fun (d:AF.cu)=>d.now.map (·.2)).map len).sum≤(((A.dirs.take A.dirs.length).flatMap fun (d:AF.cu)=>d.now.map (·.2)).map len).sum;rw [take_length];have:A.dirs=A.dirs.take i++A.dirs.drop i:=(take_append_drop i _).symm;rw [show (A.dirs.flatMap fun (d:AF.cu)=>d.now.map (·.2))=((A.dirs.take i).flatMap fun (d:AF.cu)=>d.now.map (·.2))++((A.dirs.drop i).flatMap fun (d:AF.cu)=>d.now.map (·.2)) by rw [← flatMap_append,take_append_drop],map_append,sum_append];omega
 refine ⟨fun st hh=>hh=h∧∃ i:Nat,st=((uS i:Int),(i:Int))∧i≤A.dirs.length,fun st _=>((A.dirs.length:Int) - st.2).toNat,⟨rfl,0,rfl,aw _⟩,?_⟩
 rintro st h1 ⟨rfl,i,rfl,hi⟩
 refine bH (a:=q.da) (l:=A.dirs.length) (m:=q.dc) H1 rfl ?_
 dsimp only
 by_cases hlt:i<A.dirs.length
 · rw [ah (show ((i:Int)<(A.dirs.length:Int)) by omega),ae];obtain ⟨d,hd⟩:∃ d,A.dirs[i]? = some d:=⟨_,ai hlt⟩
   obtain ⟨x,hx,_⟩:=cL hq hd (H1.mv 3 |>.mv 3);have hrn:=(eO hq hd hx H1).1;have hok:=(W.each d (aj hd)).ok;have hnl:=hok.few
   let uI:Nat→Nat:=fun k=>uS i+((d.now.take k).map fun (p:ByteArray×Nat)=>len p.2).sum
   have hI:∀ k,uI k≤A.used:=by
    intro k;refine Nat.le_trans ?_ (hmono (i+1));rw [hsucc i d hd];show uS i+((d.now.take k).map fun (p:ByteArray×Nat)=>len p.2).sum≤_;have:=sO (d.now.map fun (p:ByteArray×Nat)=>len p.2) k;rw [← map_take] at this;omega
   refine ⟨fun st hh=>hh=h1∧∃ k:Nat,st=((uI k:Int),(k:Int))∧k≤d.now.length,fun st _=>((d.now.length:Int) - st.2).toNat,⟨rfl,0,by show ((uS i:Int),(0:Int))=(((uS i+0:Nat):Int),_); rw [Nat.add_zero]; rfl,aw _⟩,?_⟩;rintro st h2 ⟨rfl,k,rfl,hk⟩;refine bH (a:=q.da) (l:=A.dirs.length) (m:=q.dc) H1 rfl ?_;refine ce hq hd hx H1 fun b hc=>p5 (hc 1 _ rfl) ?_;dsimp only;by_cases hlt2:k<d.now.length
   · rw [ah (show ((k:Int)<(d.now.length:Int)) by omega),ae];obtain ⟨p,hp⟩:∃ p,d.now[k]? = some p:=⟨_,ai hlt2⟩
     have hpf:=(hok.each p (aj hp)).1;obtain ⟨y,hy⟩:∃ y,A.files[p.2]? = some y:=⟨_,ai hpf⟩
     have hy8:=(W.files y (aj hy)).2.2;refine bH (a:=q.fa) (l:=A.files.length) (m:=q.fc) H1 rfl ?_;refine bH (a:=q.da) (l:=A.dirs.length) (m:=q.dc) H1 rfl ?_;refine ce hq hd hx H1 fun b hc=>p5 (hc 1 _ rfl) ?_;refine dp cd (by decide) hrn rfl hp fun b hb hc=>nX (hc 1 _ rfl) ?_;refine dk hy H1 fun b e0 e1=>fE e0 ?_;have hlen:len p.2=y.b.length:=by
      show (A.X p.2).b.length=_;rw [AF.qf hy]
     have hI1:uI (k+1)=uI k+y.b.length:=by
      show uS i+((d.now.take (k+1)).map fun (p:ByteArray×Nat)=>len p.2).sum=uS i+((d.now.take k).map fun (p:ByteArray×Nat)=>len p.2).sum+_;rw [az,hp,map_append,sum_append];show uS i+(_+(len p.2+0))=_;rw [hlen];omega
     have hb1:=hI (k+1);rw [dC hy8,aN (by omega),IntWalk.i64_in _ (by omega)];refine ⟨⟨rfl,k+1,by rw [hI1]; rfl,by omega⟩,by show ((d.now.length:Int) - ((k+1:Nat):Int)).toNat<((d.now.length:Int) - (k:Int)).toNat; omega⟩
   · rw [af (by omega),ab,aN (by omega)];have ek:uI k=uS (i+1):=by
      rw [hsucc i d hd];show uS i+((d.now.take k).map fun (p:ByteArray×Nat)=>len p.2).sum=_;rw [av (by omega)]
     refine ⟨⟨rfl,i+1,by rw [ek],by omega⟩,by show ((A.dirs.length:Int) - ((i+1:Nat):Int)).toNat<((A.dirs.length:Int) - (i:Int)).toNat; omega⟩
 · rw [af (by omega),ab];have:i=A.dirs.length:=by omega
   rw [this,hfull];exact ⟨rfl,rfl⟩
end
section
variable {m i:Nat} {A:AF.FS} {q:g5} {d d':AF.cu} {x x':gt} {F:List aF} {h:Heap} {dir name:ByteArray}
theorem entry_err {e:Nat} (h:A.entry dir name=.error e):e≠0:=by
 unfold AF.FS.entry at h
 cases hr:A.ready dir [name] with
 | error e'=>
   rw [hr] at h;cases h;exact gB hr
 | ok i=>
   rw [hr] at h;dsimp only at h;split at h
   · cases h
   · cases h; decide
theorem jT (W:A.WF) {k:Nat} (h:A.entry dir name=.ok (i,k)):∃ d y,A.dirs[i]? = some d∧d.name=dir∧AF.of d.now name=some k∧A.files[k]? = some y∧A.ready dir [name]=.ok i:=by
 obtain ⟨hr,ho⟩:=AF.kq h
 obtain ⟨_,_,_,_,d,hd,hdn⟩:=AF.db hr
 rw [AF.iR hd] at ho
 have hok:=(W.each d (aj hd)).ok
 have hlt:=(hok.each _ (AF.jc ho)).1
 exact ⟨d,A.files[k],hd,hdn,ho,ai hlt,hr⟩
def yy:Except Nat (List Nat)→Value
 | .ok b=>.tuple #[.string (dW b),.int .i64 0]
 | .error e=>.tuple #[.string .empty,.int .i64 (e:Int)]
theorem pJ (W:A.WF) (H:aG (bd m A::F) h):aE prog 81 [aM m,.string dir,.string name] h fun v h'=>v=yy (A.read dir name)∧h'=h:=by
 apply Bn.ap
 unfold F7
 refine (kY W H).mono ?_
 rintro v h1 ⟨rfl,rfl⟩
 unfold AF.FS.read
 cases he:A.entry dir name with
 | error e=>
   refine ⟨_,_,_,rfl,?_⟩;rw [aX (entry_err he),ae];exact ⟨rfl,rfl⟩
 | ok p=>
   obtain ⟨i,k⟩:=p;obtain ⟨d,y,hd,_,_,hy,_⟩:=jT W he;refine ⟨_,_,_,rfl,?_⟩;rw [show ((0:Int)!=0)=false from rfl,ab];obtain ⟨q,hq,H1⟩:=bS H;simp only [aK];refine bH (a:=q.fa) (l:=A.files.length) (m:=q.fc) H1 rfl ?_;refine dk hy H1 fun b e0 e1=>fE e0 ?_;simp only [AF.qf hy];exact ⟨rfl,by trivial⟩
theorem jE (W:A.WF) (H:aG (bd m A::F) h):aE prog 79 [aM m,.string dir] h fun v h'=>
  (∃ (ks:List ByteArray) (a:Option Addr) (c:Nat),A.list dir=.ok ks∧v=.tuple #[.slice a ks.length c,.int .i64 0]∧aG (aQ 9 1 a ks.length c (ks.map Value.string)::bd m A::F) h')∨
  (∃ e:Nat,A.list dir=.error e∧e≠0∧v=.tuple #[.slice none 0 0,.int .i64 (e:Int)]∧aG (bd m A::F) h'):=by
 apply Bp.ap
 unfold Ga
 have hfew:=W.few
 refine (is (by omega) H).mono ?_
 rintro v h1 ⟨rfl,rfl⟩
 rw [lC]
 unfold AF.FS.list
 cases hr:A.ready dir [] with
 | error e=>
   have e0:=gB hr;refine ⟨_,_,rfl,?_⟩;rw [aX e0,ae];exact .inr ⟨e,rfl,e0,rfl,H⟩
 | ok i=>
   obtain ⟨_,_,_,_,d,hd,_⟩:=AF.db hr;refine ⟨_,_,rfl,?_⟩;rw [show ((0:Int)!=0)=false from rfl,ab];dsimp only;rw [AF.iR hd];have hnl:=(W.each d (aj hd)).ok.few;obtain ⟨q,hq,H1⟩:=bS H;obtain ⟨x,hx,_⟩:=cL hq hd (H1.mv 3 |>.mv 3);simp only [aK];refine ⟨fun st hh=>∃ (k:Nat) (oa:Option Addr) (oc:Nat),st=(⟨oa,((d.now.take k).map (·.1)).length,oc⟩,(k:Int))∧k≤d.now.length∧aG (aQ 9 1 oa ((d.now.take k).map (·.1)).length oc (((d.now.take k).map (·.1)).map Value.string)::pt m (.cells (fi A q) 109 (0,0))::cF A q::dF A q::cp A q::F) hh,
    fun st _=>((d.now.length:Int) - st.2).toNat,⟨0,none,0,rfl,aw _,bR 9 1 H1⟩,?_⟩
   rintro st h2 ⟨k,oa,oc,rfl,hk,H2⟩;have R2:=H2.drop;refine bH (a:=q.da) (l:=A.dirs.length) (m:=q.dc) R2 rfl ?_;refine ce hq hd hx R2 fun b hc=>p5 (hc 1 _ rfl) ?_;dsimp only;by_cases hlt:k<d.now.length
   · rw [ah (show ((k:Int)<(d.now.length:Int)) by omega),ae];obtain ⟨p,hp⟩:∃ p,d.now[k]? = some p:=⟨_,ai hlt⟩
     have ht:(d.now.take (k+1)).map (·.1)=(d.now.take k).map (·.1)++[p.1]:=by
      rw [az,hp,map_append]
      rfl
     have hlen:((d.now.take k).map (·.1)).length=k:=by rw [aq,au]; omega
     refine bH (a:=q.da) (l:=A.dirs.length) (m:=q.dc) R2 rfl ?_;refine ce hq hd hx R2 fun b hc=>p5 (hc 1 _ rfl) ?_;refine dp cd (by decide) (eO hq hd hx R2).1 rfl hp fun b hb hc=>fE (hc 0 _ rfl) ?_;rw [aN (by omega)];refine yC (K:=fun _ h2 a l c=>_) (by rw [hlen]; omega) H2 fun b3 a2 c2 h3 H3=>?_;rw [← ht] at H3 ⊢;exact ⟨⟨k+1,a2,c2,rfl,by omega,H3⟩,by show ((d.now.length:Int) - ((k+1:Nat):Int)).toNat<((d.now.length:Int) - (k:Int)).toNat; omega⟩
   · rw [af (by omega),ab];have et:d.now.take k=d.now:=av (by omega);rw [et] at H2 ⊢;exact .inl ⟨d.now.map (fun p:ByteArray×Nat=>p.1),oa,oc,rfl,rfl,(dg hq (H2.ordT 5 [1,2,3,4,0])).mv 1⟩
theorem lA {f:AF.FS} {k:Nat} {y:AF.cV} {g:AF.cV→AF.cV} (hy:f.files[k]? = some y):({ f with files:=f.files.set k (g y) }:AF.FS)=f.setFile k g:=by
 unfold AF.FS.setFile
 rw [cT g hy]
theorem pN {s:ByteArray} (W:A.WF) (hs:A.steps<1099511627776) (hsz:s.size<4611686018427387904) (H:aG (bd m A::F) h) :
  aE prog 63 [aM m,.string dir,.string name,.string s] h fun v h'=>v=.int .i64 ((A.append dir name (sb s)).2:Int)∧aG (bd m (A.append dir name (sb s)).1::F) h':=by
 apply BB.ap
 unfold Gl
 refine (kY W H).mono ?_
 rintro v h1 ⟨rfl,rfl⟩
 cases he:A.entry dir name with
 | error e=>
   have eA:A.append dir name (sb s)=(A,e):=by unfold AF.FS.append; rw [he]
   refine ⟨_,_,_,rfl,?_⟩;rw [aX (entry_err he),ae,eA];exact ⟨rfl,H⟩
 | ok p=>
   obtain ⟨i,k⟩:=p;obtain ⟨d,y,hd,_,_,hy,_⟩:=jT W he;have hyW:=W.files y (aj hy);have hyl:=dC hyW.2.2;have eA:A.append dir name (sb s)=if 16777216<y.b.length+(sb s).length then (A,67) else if A.room<A.used+(sb s).length then (A,64) else A.step fun g=>g.setFile k fun y=>{ y with b:=y.b++sb s }:=by
    unfold AF.FS.append;rw [he];dsimp only;rw [AF.qf hy]
   have hsl:=bE s;have hul:=W.used_le;have hroom:=W.room;refine ⟨_,_,_,rfl,?_⟩;rw [show ((0:Int)!=0)=false from rfl,ab];obtain ⟨q,hq,H1⟩:=bS H;simp only [aK];refine bH (a:=q.fa) (l:=A.files.length) (m:=q.fc) H1 rfl ?_;refine dk hy H1 fun b e0 e1=>fE e0 ?_;rw [eA,hyl,IntWalk.i64_in _ (by omega),hsl];by_cases c1:16777216<y.b.length+s.size
   · rw [ah (by omega),ae,an c1];exact ⟨rfl,H⟩
   · rw [af (by omega),ab,am c1];refine ⟨_,(tZ W H).mono fun v h' hh=>⟨hh.1,hh.2⟩,?_⟩;rw [aL];refine bM (x:=(A.room:Int)) H1 rfl ?_;rw [IntWalk.i64_in _ (by omega)];by_cases c2:A.room<A.used+s.size
     · rw [ah (by omega),ae,an c2];exact ⟨rfl,H⟩
     · rw [af (by omega),ab,am c2];refine (jG W hs H).mono ?_;rintro v h2 (⟨hfu,rfl,H2⟩ | ⟨hfu,rfl,H2⟩)
       · rw [aL,show ((60:Int)==0)=false from rfl,ab,iy hfu];exact ⟨rfl,H2⟩
       · rw [aL,show ((0:Int)==0)=true from rfl,ae,gx hfu];obtain ⟨q,hq,H3⟩:=bS H2;have hy2:A.stepOn.files[k]? = some y:=hy;refine bH (a:=q.fa) (l:=A.files.length) (m:=q.fc) H3 rfl ?_;refine bH (a:=q.fa) (l:=A.files.length) (m:=q.fc) H3 rfl ?_;refine dk (A:=A.stepOn) hy2 H3 fun b e0 e1=>fE e0 ?_;refine ⟨by rw [hyl]; omega,?_⟩;refine ju (A:=A.stepOn) (m:=m) (y':={ y with b:=y.b++sb s }) hy2 (j:=0) (by decide) ?_ H3 fun h4 H4=>?_
         · show [Value.string (dW y.b++s),.int .i64 (y.safe:Int)]=[Value.string (dW (y.b++sb s)),.int .i64 (y.safe:Int)]
           rw [uK,yH]
         · unfold fQ at H4;rw [lA (g:=fun y=>{ y with b:=y.b++sb s }) hy2] at H4;exact ⟨rfl,dg (A:=A.stepOn.setFile k fun y=>{ y with b:=y.b++sb s }) hq H4⟩
theorem pM (W:A.WF) (hs:A.steps<1099511627776) (H:aG (bd m A::F) h) :
  aE prog 64 [aM m,.string dir,.string name] h fun v h'=>v=.int .i64 ((A.sync dir name).2:Int)∧aG (bd m (A.sync dir name).1::F) h':=by
 apply BA.ap
 unfold Gk
 refine (kY W H).mono ?_
 rintro v h1 ⟨rfl,rfl⟩
 cases he:A.entry dir name with
 | error e=>
   have eA:A.sync dir name=(A,e):=by unfold AF.FS.sync; rw [he]
   refine ⟨_,_,_,rfl,?_⟩;rw [aX (entry_err he),ae,eA];exact ⟨rfl,H⟩
 | ok p=>
   obtain ⟨i,k⟩:=p;obtain ⟨d,y,hd,_,_,hy,_⟩:=jT W he;have eA:A.sync dir name=A.step fun g=>g.setFile k fun y=>{ y with safe:=y.b.length }:=by unfold AF.FS.sync; rw [he]
   rw [eA];have hyl:=dC (W.files y (aj hy)).2.2;refine ⟨_,_,_,rfl,?_⟩;rw [show ((0:Int)!=0)=false from rfl,ab];refine (jG W hs H).mono ?_;rintro v h2 (⟨hfu,rfl,H2⟩ | ⟨hfu,rfl,H2⟩)
   · rw [aL,show ((60:Int)==0)=false from rfl,ab,iy hfu];exact ⟨rfl,H2⟩
   · rw [aL,show ((0:Int)==0)=true from rfl,ae,gx hfu];obtain ⟨q,hq,H3⟩:=bS H2;have hy2:A.stepOn.files[k]? = some y:=hy;simp only [aK];refine bH (a:=q.fa) (l:=A.files.length) (m:=q.fc) H3 rfl ?_;refine bH (a:=q.fa) (l:=A.files.length) (m:=q.fc) H3 rfl ?_;refine dk (A:=A.stepOn) hy2 H3 fun b e0 e1=>fE e0 ?_;refine ju (A:=A.stepOn) (m:=m) (y':={ y with safe:=y.b.length }) hy2 (j:=1) (by decide) ?_ H3 fun h4 H4=>?_
     · rw [hyl]
       rfl
     · unfold fQ at H4;rw [lA (g:=fun y=>{ y with safe:=y.b.length }) hy2] at H4;exact ⟨rfl,dg (A:=A.stepOn.setFile k fun y=>{ y with safe:=y.b.length }) hq H4⟩
end
section
variable {m i:Nat} {A:AF.FS} {q:g5} {d d':AF.cu} {x x':gt} {F:List aF} {h:Heap} {dir name:ByteArray}
theorem nB (hd:A.dirs[i]? = some d) (hx:q.qs[i]? = some x) (hP:∀ F',aG (cW d x::F') h→aG (cW d' x'::F') h) (H:aG (cp A q::F) h) :
  aG (bP (zipWith cW (A.dirs.set i d') (q.qs.set i x'))::F) h:=by
 have H2:=gU H hd hx
 have H3:=hP _ H2
 exact o8 (ak.1 hd).1 (ak.1 hx).1 H3
theorem yY (H:aG (cW d x::F) h):aG (cW ⟨d.name,d.now,d.now,d.pend⟩ ⟨x.na,x.nc,x.na,x.nc,x.pa,x.pc⟩::F) h:=by
 have H2:=aG.dup (oD _ _) H.open
 exact aG.shut (m:=[jH x.na (d.now.flatMap cn),jH x.na (d.now.flatMap cn),jH x.pa (d.pend.flatMap mN)]) (H2.ordT 4 [0,1,3])
theorem AE (H:aG (cW d x::F) h):aG (cW ⟨d.name,d.now,d.base,[]⟩ ⟨x.na,x.nc,x.ba,x.bc,none,0⟩::F) h:=by
 have H2:=H.open
 have H3:=jt (H2.ordT 3 [0,1])
 exact aG.shut (m:=[jH x.na (d.now.flatMap cn),jH x.ba (d.base.flatMap cn),jH none []]) (H3.ordT 3 [1,2,0])
theorem ni {K:Heap→Prop} (hq:q.qs.length=A.dirs.length) (hd:A.dirs[i]? = some d) (hx:q.qs[i]? = some x) (H:fQ m A q F h)
  (hK:∀ h',aG (bd m (A.setDir i fun d=>{ d with base:=d.now,pend:=[] })::F) h'→K h') :
  aO q.da A.dirs.length (i:Int) 4 fun a3=>bN h ((a3.add 2).add 0) (.slice x.na d.now.length x.nc) fun h_3=>
   Ld h_3 ((⟨m,0,none⟩:Addr).add 5) fun v3=>aZ v3 fun x5a x5l x5c=>aO x5a x5l (i:Int) 4 fun a5=>bN h_3 ((a5.add 3).add 0) (.slice none 0 0) K:=by
 have K1:=nB (d':=⟨d.name,d.now,d.now,d.pend⟩) (x':=⟨x.na,x.nc,x.na,x.nc,x.pa,x.pc⟩) hd hx (fun F' H'=>yY H') (H.mv 3)
 refine ke (m:=m) (d':=⟨d.name,d.now,d.now,d.pend⟩) (x':=⟨x.na,x.nc,x.na,x.nc,x.pa,x.pc⟩) hq hd hx (by decide) rfl (K1.ordT 4 [1,2,3,0]) fun h3 H3=>?_
 have hd2:=gL (y:=(⟨d.name,d.now,d.now,d.pend⟩:AF.cu)) hd
 have hx2:=gL (y:=(⟨x.na,x.nc,x.na,x.nc,x.pa,x.pc⟩:gt)) hx
 have hq2:(q.qs.set i (⟨x.na,x.nc,x.na,x.nc,x.pa,x.pc⟩:gt)).length=(A.dirs.set i (⟨d.name,d.now,d.now,d.pend⟩:AF.cu)).length:=by rw [length_set,length_set,hq]
 generalize hA3:({ A with dirs:=A.dirs.set i (⟨d.name,d.now,d.now,d.pend⟩:AF.cu) }:AF.FS)=A3 at H3
 generalize hQ3:({ q with qs:=q.qs.set i (⟨x.na,x.nc,x.na,x.nc,x.pa,x.pc⟩:gt) }:g5)=q3 at H3
 have hd4:A3.dirs[i]? = some ⟨d.name,d.now,d.now,d.pend⟩:=by rw [← hA3]; exact hd2
 have hx4:q3.qs[i]? = some ⟨x.na,x.nc,x.na,x.nc,x.pa,x.pc⟩:=by rw [← hQ3]; exact hx2
 have hq4:q3.qs.length=A3.dirs.length:=by rw [← hA3,← hQ3]; exact hq2
 refine bH (a:=q3.da) (l:=A3.dirs.length) (m:=q3.dc) H3 rfl ?_
 have K2:=nB (A:=A3) (q:=q3) (d':=⟨d.name,d.now,d.now,[]⟩) (x':=⟨x.na,x.nc,x.na,x.nc,none,0⟩) hd4 hx4 (fun F' H'=>AE H') (H3.mv 3)
 refine ke (A:=A3) (q:=q3) (m:=m) (d':=⟨d.name,d.now,d.now,[]⟩) (x':=⟨x.na,x.nc,x.na,x.nc,none,0⟩) hq4 hd4 hx4 (by decide) rfl (K2.ordT 4 [1,2,3,0]) fun h4 H4=>hK h4 ?_
 have eA:({ A3 with dirs:=A3.dirs.set i (⟨d.name,d.now,d.now,[]⟩:AF.cu) }:AF.FS)=A.setDir i fun d=>{ d with base:=d.now,pend:=[] }:=by
  rw [← hA3];unfold AF.FS.setDir;dsimp only;rw [set_set,cT (fun d=>{ d with base:=d.now,pend:=[] }) hd]
 unfold fQ at H4
 rw [eA] at H4
 refine dg (q:={ q3 with qs:=q3.qs.set i (⟨x.na,x.nc,x.na,x.nc,none,0⟩:gt) }) ?_ H4
 rw [← eA]
 show (q3.qs.set i _).length=(A3.dirs.set i _).length
 rw [length_set,length_set,hq4]
theorem kA (W:A.WF) (hs:A.steps<1099511627776) (H:aG (bd m A::F) h) :
  aE prog 65 [aM m,.string dir] h fun v h'=>v=.int .i64 ((A.syncDir dir).2:Int)∧aG (bd m (A.syncDir dir).1::F) h':=by
 apply Bz.ap
 unfold Gj
 have hfew:=W.few
 refine (is (by omega) H).mono ?_
 rintro v h1 ⟨rfl,rfl⟩
 rw [lC]
 cases hr:A.ready dir [] with
 | error e=>
   have eA:A.syncDir dir=(A,e):=by unfold AF.FS.syncDir; rw [hr]
   refine ⟨_,_,rfl,?_⟩;rw [aX (gB hr),ae,eA];exact ⟨rfl,H⟩
 | ok i=>
   obtain ⟨_,_,_,_,d,hd,_⟩:=AF.db hr;have eA:A.syncDir dir=A.step fun g=>g.setDir i fun d=>{ d with base:=d.now,pend:=[] }:=by unfold AF.FS.syncDir; rw [hr]
   rw [eA];refine ⟨_,_,rfl,?_⟩;rw [show ((0:Int)!=0)=false from rfl,ab];refine (jG W hs H).mono ?_;rintro v h2 (⟨hfu,rfl,H2⟩ | ⟨hfu,rfl,H2⟩)
   · rw [aL,show ((60:Int)==0)=false from rfl,ab,iy hfu];exact ⟨rfl,H2⟩
   · rw [aL,show ((0:Int)==0)=true from rfl,ae,gx hfu];obtain ⟨q,hq,H3⟩:=bS H2;have hd2:A.stepOn.dirs[i]? = some d:=hd;obtain ⟨x,hx,_⟩:=cL hq hd2 (H3.mv 3 |>.mv 3);simp only [aK];refine bH (a:=q.da) (l:=A.stepOn.dirs.length) (m:=q.dc) H3 rfl ?_;refine bH (a:=q.da) (l:=A.stepOn.dirs.length) (m:=q.dc) H3 rfl ?_;refine ce (A:=A.stepOn) hq hd2 hx H3 fun b hc=>p5 (hc 1 _ rfl) ?_;exact ni (A:=A.stepOn) hq hd2 hx H3 fun h' H'=>⟨rfl,H'⟩
theorem t7 {k:ByteArray} (W:A.WF) (hs:A.steps<1099511627776) (H:aG (bd m A::F) h) :
  aE prog 66 [aM m,.string dir,.string name,.string k] h fun v h'=>v=.int .i64 ((A.rename dir name k).2:Int)∧aG (bd m (A.rename dir name k).1::F) h':=by
 apply By.ap
 unfold Gi
 have hfew:=W.few
 refine (is (by omega) H).mono ?_
 rintro v h1 ⟨rfl,rfl⟩
 cases hr:A.ready dir [name,k] with
 | error e=>
   have eA:A.rename dir name k=(A,e):=by unfold AF.FS.rename; rw [hr]
   refine ⟨_,_,rfl,?_⟩;rw [aX (gB hr),ae,eA];exact ⟨rfl,H⟩
 | ok i=>
   obtain ⟨_,_,_,_,d,hd,_⟩:=AF.db hr;have eA:A.rename dir name k=if (AF.of d.now name).isNone then (A,62) else A.step fun g=>g.did i (.rename name k):=by unfold AF.FS.rename; rw [hr]; dsimp only; rw [AF.iR hd]
   rw [eA];refine ⟨_,_,rfl,?_⟩;rw [show ((0:Int)!=0)=false from rfl,ab];obtain ⟨q,hq,H1⟩:=bS H;obtain ⟨x,hx,_⟩:=cL hq hd (H1.mv 3 |>.mv 3);have hnl:=(W.each d (aj hd)).ok.few;simp only [aK];refine bH (a:=q.da) (l:=A.dirs.length) (m:=q.dc) H1 rfl ?_;refine ce hq hd hx H1 fun b hc=>p5 (hc 1 _ rfl) ?_;refine (ir (eO hq hd hx H1).1 rfl (by omega)).mono ?_;rintro v h2 ⟨rfl,rfl⟩;rw [aL]
   cases ho:AF.of d.now name with
   | none=>
     rw [show vD none = -1 from rfl,ah (by decide),ae];exact ⟨rfl,H⟩
   | some y=>
     rw [show vD (some y)=(y:Int) from rfl,af (by omega),ab];refine (m6 (o:=.rename name k) rfl W hs hd (by show (AF.of d.now name).isSome=true; rw [ho]; rfl) H).mono ?_;rintro v h3 ⟨rfl,H3⟩;rw [aL];exact ⟨rfl,H3⟩
theorem mA (W:A.WF) (hs:A.steps<1099511627776) (H:aG (bd m A::F) h) :
  aE prog 67 [aM m,.string dir,.string name] h fun v h'=>v=.int .i64 ((A.remove dir name).2:Int)∧aG (bd m (A.remove dir name).1::F) h':=by
 apply Bx.ap
 unfold Gh
 refine (kY W H).mono ?_
 rintro v h1 ⟨rfl,rfl⟩
 cases he:A.entry dir name with
 | error e=>
   have eA:A.remove dir name=(A,e):=by unfold AF.FS.remove; rw [he]
   refine ⟨_,_,_,rfl,?_⟩;rw [aX (entry_err he),ae,eA];exact ⟨rfl,H⟩
 | ok p=>
   obtain ⟨i,k⟩:=p;obtain ⟨d,y,hd,_,_,hy,_⟩:=jT W he;have eA:A.remove dir name=A.step fun g=>g.did i (.remove name):=by unfold AF.FS.remove; rw [he]
   rw [eA];refine ⟨_,_,_,rfl,?_⟩;rw [show ((0:Int)!=0)=false from rfl,ab];refine (m6 (o:=.remove name) rfl W hs hd trivial H).mono ?_;rintro v h3 ⟨rfl,H3⟩;rw [aL];exact ⟨rfl,H3⟩
theorem oF {y:AF.cV} {cs:Array Value} {K:Heap→Prop} (hcs:cs.toList=ko y) (hm:A.files.length<1099511627776) (H:fQ m A q F h)
  (hK:∀ fa fc h',fQ m { A with files:=A.files++[y] } { q with fa:=fa,fc:=fc } F h'→K h') :
  Al h (.cells cs 199) fun b0 h_3=>bB prog (append_ #[106,106] 106 #[.slice q.fa A.files.length q.fc,.slice (some (Addr.mk b0 0 none)) 1 1]) h_3 fun r4 h_4=>aZ r4 fun x9a x9l x9c=>bN h_4 (((⟨m,0,none⟩:Addr).add 4).add 0) (.slice x9a x9l x9c) K:=by
 refine g8 (f:=ko) (x:=y) (xs:=A.files) HL Dm DD jS (tG y) hcs rfl (by omega) (H.mv 1) fun a' c' h2 H2=>?_
 rw [aP]
 refine ct (c':=fi { A with files:=A.files++[y] } { q with fa:=a',fc:=c' }) (H2.mv 1) (by show 4<6; decide) (by
  show _=(#[.int .i64 (A.room:Int),.int .i64 (A.steps:Int),.int .i64 (dP A.fuse),.bool A.off,.slice a' (A.files++[y]).length c',.slice q.da A.dirs.length q.dc]:Array Value)
  rw [ao,length_singleton]
  rfl) fun h3 H3=>hK a' c' h3 ?_
 have e:A.files.length+1=(A.files++[y]).length:=by rw [ao,length_singleton]
 rw [e] at H3
 exact H3
theorem pO (W:A.WF) (hs:A.steps<1099511627776) (hm:A.files.length<1099511627776) (H:aG (bd m A::F) h) :
  aE prog 62 [aM m,.string dir,.string name] h fun v h'=>v=.int .i64 ((A.create dir name).2:Int)∧aG (bd m (A.create dir name).1::F) h':=by
 apply BC.ap
 unfold Gm
 have hfew:=W.few
 refine (is (by omega) H).mono ?_
 rintro v h1 ⟨rfl,rfl⟩
 rw [qx]
 cases hr:A.ready dir [name] with
 | error e=>
   have eA:A.create dir name=(A,e):=by unfold AF.FS.create; rw [hr]
   refine ⟨_,_,rfl,?_⟩;rw [aX (gB hr),ae,eA];exact ⟨rfl,H⟩
 | ok i=>
   obtain ⟨_,_,_,_,d,hd,_⟩:=AF.db hr;have eA:A.create dir name=if (AF.of d.now name).isSome then (A,63) else if 4096≤d.now.length then (A,66) else A.step fun g=>AF.FS.did { g with files:=g.files++[⟨[],0⟩] } i (.create name g.files.length):=by unfold AF.FS.create; rw [hr]; dsimp only; rw [AF.iR hd]
   rw [eA];refine ⟨_,_,rfl,?_⟩;rw [show ((0:Int)!=0)=false from rfl,ab];obtain ⟨q,hq,H1⟩:=bS H;obtain ⟨x,hx,_⟩:=cL hq hd (H1.mv 3 |>.mv 3);have hnl:=(W.each d (aj hd)).ok.few;simp only [aK];refine bH (a:=q.da) (l:=A.dirs.length) (m:=q.dc) H1 rfl ?_;refine ce hq hd hx H1 fun b hc=>p5 (hc 1 _ rfl) ?_;refine (ir (eO hq hd hx H1).1 rfl (by omega)).mono ?_;rintro v h2 ⟨rfl,rfl⟩;rw [aL]
   cases ho:AF.of d.now name with
   | some y=>
     rw [show vD (some y)=(y:Int) from rfl,ah (by omega),ae];exact ⟨rfl,H⟩
   | none=>
     rw [show vD none = -1 from rfl,af (by decide),ab];simp only [Option.isSome_none,Bool.false_eq_true,if_false];refine bH (a:=q.da) (l:=A.dirs.length) (m:=q.dc) H1 rfl ?_;refine ce hq hd hx H1 fun b hc=>p5 (hc 1 _ rfl) ?_;by_cases c1:4096≤d.now.length
     · rw [ah (show ((d.now.length:Int)≥4096) by omega),ae,an c1];exact ⟨rfl,H⟩
     · rw [af (show ¬ ((d.now.length:Int)≥4096) by omega),ab,am c1];refine bH (a:=q.fa) (l:=A.files.length) (m:=q.fc) H1 rfl ?_;refine (m6 (o:=.create name A.files.length) rfl W hs hd trivial H).mono ?_;rintro v h3 ⟨rfl,H3⟩;rw [aL];by_cases hfu:A.fuse=some 0
       · rw [iy hfu] at H3 ⊢;rw [iy hfu];rw [show (((60:Nat):Int)==0)=false from rfl,ab];exact ⟨rfl,H3⟩
       · rw [gx hfu] at H3 ⊢;rw [gx hfu];rw [show (((0:Nat):Int)==0)=true from rfl,ae];obtain ⟨q2,hq2,H4⟩:=bS H3;refine bH (a:=q2.fa) (l:=A.files.length) (m:=q2.fc) H4 rfl ?_;exact oF (A:=A.stepOn.did i (.create name A.files.length)) (y:=⟨[],0⟩) rfl hm H4 fun fa fc h' H'=>⟨rfl,dg (q:={ q2 with fa:=fa,fc:=fc }) hq2 H'⟩
end
theorem xW:prog.underlying 107=some (.slice 144):=by kernel_rfl
theorem ov:d8 prog 107=true:=by kernel_rfl
theorem pf:gi prog 144 4 88=true:=by kernel_rfl
theorem iK (p:AF.cu×gt):∀ u∈eS p,u.oneCell'=true:=by
 intro u hu
 simp [eS] at hu
 rcases hu with rfl | rfl | rfl | rfl <;> rfl
abbrev sD:=AF.cu×gt
def eZ (e:sD):List sD→List sD
 | []=>[e]
 | p::l=>if AF.ji e.1.name p.1.name then e::p::l else p::eZ e l
theorem tB (e:sD):∀ l:List sD,(eZ e l).map (·.1)=AF.cJ e.1 (l.map (·.1))
 | []=>rfl
 | p::l=>by
   rw [eZ,map_cons,AF.cJ];split
   · rfl
   · rw [map_cons,tB e l]
theorem qR (e:sD):∀ l:List sD,(eZ e l).Perm (e::l)
 | []=>.refl _
 | p::l=>by
   rw [eZ];split
   · exact .refl _
   · exact ((qR e l).cons p).trans (.swap _ _ _)
theorem mR (e:sD) {l2:List sD}:∀ {l1:List sD},(∀ p∈l1,AF.ji e.1.name p.1.name=false)→eZ e (l1++l2)=l1++eZ e l2
 | [],_=>rfl
 | p::l,h=>by
   rw [cons_append,eZ,am (by rw [h p (by simp)]; simp),mR e fun q hq=>h q (by simp [hq])]
   rfl
theorem nf:∀ l:List sD,(l.map (·.1)).zip (l.map (·.2))=l
 | []=>rfl
 | p::l=>by rw [map_cons,map_cons,List.zip_cons_cons,nf l]
theorem An {ds:List AF.cu} {qs:List gt} (h:qs.length=ds.length):(ds.zip qs).map (·.1)=ds:=by
 rw [List.map_fst_zip]
 omega
theorem lj:∀ (l:List sD),zipWith cW (l.map (·.1)) (l.map (·.2))=l.map fun p=>cW p.1 p.2
 | []=>rfl
 | p::l=>by rw [map_cons,map_cons,zipWith_cons_cons,lj l]; rfl
theorem sG (ds:List AF.cu) (qs:List gt):zipWith cW ds qs=(ds.zip qs).map fun p=>cW p.1 p.2:=by
 rw [zip_eq_zipWith,List.map_zipWith]
theorem FF (a b:ByteArray):(!(kb a b||dm a b))=AF.ji b a:=by
 rw [AF.lS,dL]
 by_cases e:a=b
 · rw [ah e,Bool.or_true,aB]
   cases hl:AF.ji b a with
   | false=>rfl
   | true=>rw [e] at hl; exact absurd hl (AF.cI _)
 · rw [af e,Bool.or_false]
   cases hl:AF.ji a b with
   | true=>
     cases hr:AF.ji b a with
     | false=>rfl
     | true=>exact absurd (AF.fW hl hr) (AF.cI _)
   | false=>
     rw [AF.iU e (by rw [hl]; simp)]
     rfl
section
variable {m i:Nat} {A:AF.FS} {q:g5} {d d':AF.cu} {x x':gt} {F:List aF} {h:Heap} {dir name:ByteArray}
theorem ua (W:A.WF) (hs:A.steps<1099511627776) (H:aG (bd m A::F) h) :
  aE prog 61 [aM m,.string dir] h fun v h'=>v=.int .i64 ((A.mkdir dir).2:Int)∧aG (bd m (A.mkdir dir).1::F) h':=by
 apply BD.ap
 unfold Gn
 have hfew:=W.few
 refine (is (by omega) H).mono ?_
 rintro v h1 ⟨rfl,rfl⟩
 rw [lC]
 cases hr:A.ready dir [] with
 | ok i=>
   have eA:A.mkdir dir=(A,63):=by unfold AF.FS.mkdir; rw [hr]
   refine ⟨_,_,rfl,?_⟩;rw [show ((0:Int)==0)=true from rfl,ae,eA];exact ⟨rfl,H⟩
 | error e=>
   have e0:=gB hr;have eA:A.mkdir dir=if e=61 then (if 64≤A.dirs.length then (A,66) else A.step fun g=>{ g with dirs:=AF.cJ ⟨dir,[],[],[]⟩ g.dirs }) else (A,e):=by unfold AF.FS.mkdir; rw [hr]
   rw [eA];refine ⟨_,_,rfl,?_⟩;rw [kT e0,ab];by_cases h61:e=61
   · subst h61;rw [show (((61:Nat):Int)!=61)=false from rfl,ab,an rfl];obtain ⟨q,hq,H1⟩:=bS H;simp only [aK];refine bH (a:=q.da) (l:=A.dirs.length) (m:=q.dc) H1 rfl ?_;by_cases c1:64≤A.dirs.length
     · rw [ah (show ((A.dirs.length:Int)≥64) by omega),ae,an c1];exact ⟨rfl,H⟩
     rw [af (show ¬ ((A.dirs.length:Int)≥64) by omega),ab,am c1];refine (jG W hs H).mono ?_;rintro v h2 (⟨hfu,rfl,H2⟩ | ⟨hfu,rfl,H2⟩)
     · rw [aL,show ((60:Int)!=0)=true from rfl,ae,iy hfu];exact ⟨rfl,H2⟩
     rw [aL,show ((0:Int)!=0)=false from rfl,ab,gx hfu];clear H1 hq q;obtain ⟨q,hq,H3⟩:=bS H2;have hdl:A.stepOn.dirs.length=A.dirs.length:=rfl;have hzl:(A.dirs.zip q.qs).length=A.dirs.length:=ib (A:=A) hq;generalize hzs:A.dirs.zip q.qs=zs at hzl
     let e0:sD:=(⟨dir,[],[],[]⟩,⟨none,0,none,0,none,0⟩)
     have hrz:∀ {h':Heap} {G:List aF},fQ m A.stepOn q G h'→cv h' q.da (zs.flatMap eS):=fun H'=>by
      have:=aH (H'.mv 2);rw [← hzs];exact this
     have fin:∀ (oa:Option Addr) (oc:Nat) (h':Heap),aG (aQ 144 4 oa (eZ e0 zs).length oc ((eZ e0 zs).flatMap eS)::pt m (.cells (fi A.stepOn q) 109 (0,0))::cF A.stepOn q::dF A.stepOn q::cp A.stepOn q::F) h'→
      bN h' (((⟨m,0,none⟩:Addr).add 5).add 0) (.slice oa (eZ e0 zs).length oc) fun h_14=>(fun v h'=>v=Value.int .i64 ((({ A.stepOn with dirs:=AF.cJ ⟨dir,[],[],[]⟩ A.stepOn.dirs }:AF.FS),0).2:Int)∧aG (bd m (({ A.stepOn with dirs:=AF.cJ ⟨dir,[],[],[]⟩ A.stepOn.dirs }:AF.FS),0).1::F) h') (.int .i64 0) h_14:=by
      intro oa oc h' H';have hfst:(eZ e0 zs).map (·.1)=AF.cJ ⟨dir,[],[],[]⟩ A.stepOn.dirs:=by
       rw [tB,← hzs,An (ds:=A.dirs) hq]
       rfl
      have hlen:(eZ e0 zs).length=(AF.cJ ⟨dir,[],[],[]⟩ A.stepOn.dirs).length:=by rw [← hfst,aq]
      rw [aP];refine ct (c':=fi { A.stepOn with dirs:=AF.cJ ⟨dir,[],[],[]⟩ A.stepOn.dirs } { q with da:=oa,dc:=oc,qs:=(eZ e0 zs).map (·.2) }) (H'.mv 1) (by show 5<6; decide) (by rw [hlen]; rfl) fun h3 H4=>?_;refine ⟨rfl,dg (q:={ q with da:=oa,dc:=oc,qs:=(eZ e0 zs).map (·.2) }) (by show ((eZ e0 zs).map (·.2)).length=_; rw [aq,hlen]) ?_⟩;have conv:∀ (P:aF),aG (P::aQ 144 4 oa (eZ e0 zs).length oc ((eZ e0 zs).flatMap eS)::cF A.stepOn q::dF A.stepOn q::cp A.stepOn q::F) h3→
       aG (P::cF A.stepOn q::aQ 144 4 oa (eZ e0 zs).length oc ((eZ e0 zs).flatMap eS)::bP ((eZ e0 zs).map fun p=>cW p.1 p.2)::F) h3:=by
       intro P HP;have H5:aG (bP (zs.map fun p=>cW p.1 p.2)::P::cF A.stepOn q::aQ 144 4 oa (eZ e0 zs).length oc ((eZ e0 zs).flatMap eS)::F) h3:=by
        have:=HP.ordT 5 [4,0,2,1];unfold cp at this;rw [sG,show A.stepOn.dirs.zip q.qs=zs from hzs] at this;exact this
       have H6:aG (cW e0.1 e0.2::bP (zs.map fun p=>cW p.1 p.2)::P::cF A.stepOn q::aQ 144 4 oa (eZ e0 zs).length oc ((eZ e0 zs).flatMap eS)::F) h3:=
        aG.shut (m:=[jH none [],jH none [],jH none []]) (jt (jt (jt H5)))
       have hperm:(cW e0.1 e0.2::zs.map fun p=>cW p.1 p.2).Perm ((eZ e0 zs).map fun (p:sD)=>cW p.1 p.2):=((qR e0 zs).symm.map fun (p:sD)=>cW p.1 p.2)
       have H7:=qJ hperm H6.consMany;exact H7.ordT 4 [1,2,3,0]
      have H8:=conv _ H4
      have hzw:zipWith cW (AF.cJ ⟨dir,[],[],[]⟩ A.stepOn.dirs) ((eZ e0 zs).map (·.2))=(eZ e0 zs).map fun p=>cW p.1 p.2:=by rw [← hfst,lj]
      have hzz:(AF.cJ ⟨dir,[],[],[]⟩ A.stepOn.dirs).zip ((eZ e0 zs).map (·.2))=eZ e0 zs:=by rw [← hfst,nf]
      unfold cp dF;dsimp only;rw [hzw,hzz,← hlen];exact H8
     refine ⟨fun st hh=>∃ (i:Nat) (oa:Option Addr) (oc:Nat) (out:List sD) (dn:Bool),st=(⟨oa,out.length,oc⟩,dn,(i:Int))∧i≤zs.length∧out.length≤i+1∧((dn=false∧(∀ p∈zs.take i,AF.ji dir p.1.name=false)∧out=zs.take i)∨(dn=true∧out++zs.drop i=eZ e0 zs))∧
      aG (aQ 144 4 oa out.length oc (out.flatMap eS)::pt m (.cells (fi A.stepOn q) 109 (0,0))::cF A.stepOn q::dF A.stepOn q::cp A.stepOn q::F) hh,
      fun st _=>((zs.length:Int) - st.2.2).toNat,⟨0,none,0,[],false,rfl,aw _,aw _,.inl ⟨rfl,by simp,rfl⟩,bR 144 4 H3⟩,?_⟩
     rintro st h3 ⟨i,oa,oc,out,dn,rfl,hi,hol,hcase,H4⟩;have R4:=H4.drop;refine bH (a:=q.da) (l:=A.dirs.length) (m:=q.dc) R4 rfl ?_;dsimp only;by_cases hlt:i<zs.length
     · rw [ah (show ((i:Int)<(A.dirs.length:Int)) by omega),ae];obtain ⟨p,hp⟩:∃ p,zs[i]? = some p:=⟨_,ai hlt⟩
       have hdrop:zs.drop i=p::zs.drop (i+1):=by
        have h5:=(ak.1 hp)
        rw [drop_eq_getElem_cons h5.1,h5.2]
       have htk:zs.take (i+1)=zs.take i++[p]:=by rw [az,hp]; rfl
       have wi:wrap .i64 ((i:Int)+1)=((i+1:Nat):Int):=aN (by omega);have hmeas:((zs.length:Int) - ((i+1:Nat):Int)).toNat<((zs.length:Int) - (i:Int)).toNat:=by omega
       have dcell:∀ {h':Heap} {G:List aF} {K:Addr→Prop},fQ m A.stepOn q G h'→(∀ b,(∀ j v,(eS p)[j]? = some v→bI h' (b.add j)=some v)→K b)→aO q.da A.dirs.length (i:Int) 4 K:=fun H' hK=>
        dp cD (by decide) (hrz H') hzl hp fun b hb hc=>hK _ hc
       rcases hcase with ⟨rfl,hall,rfl⟩ | ⟨rfl,hins⟩
       · rw [aC,ae];refine bH (a:=q.da) (l:=A.dirs.length) (m:=q.dc) R4 rfl ?_;refine dcell R4 fun b hc=>fE (hc 0 _ rfl) ?_;rw [FF]
         cases hgt:AF.ji dir p.1.name with
         | true=>
           rw [ae];have hin:eZ e0 zs=zs.take i++(e0::p::zs.drop (i+1)):=by
            have e1:eZ e0 zs=eZ e0 (zs.take i++zs.drop i):=by rw [take_append_drop]
            rw [e1,mR e0 hall,hdrop,eZ,an hgt]
           refine g8 (f:=eS) (x:=e0) xW ov pf cD (iK e0) rfl rfl (by omega) H4 fun a1 c1 h4 H5=>?_;have R5:=H5.drop;refine bH (a:=q.da) (l:=A.dirs.length) (m:=q.dc) R5 rfl ?_;refine dcell R5 fun b hc=>⟨_,hc 0 _ rfl,_,hc 1 _ rfl,_,hc 2 _ rfl,_,hc 3 _ rfl,_,_,_,_,_,_,_,_,_,_,rfl,?_⟩
           refine g8 (f:=eS) (x:=p) xW ov pf cD (iK p) rfl (by rw [ao]; rfl) (by omega) H5 fun a2 c2 h5 H6=>?_;rw [wi];exact ⟨⟨i+1,a2,c2,zs.take i++[e0]++[p],true,by rw [ao,ao]; rfl,by omega,by
            have:(zs.take i).length=i:=by rw [au]; omega
            rw [ao,ao,length_singleton,length_singleton]; omega,.inr ⟨rfl,by rw [hin,append_assoc,append_assoc]; rfl⟩,by rw [ao,ao]; exact H6⟩,hmeas⟩
         | false=>
           rw [ab];refine bH (a:=q.da) (l:=A.dirs.length) (m:=q.dc) R4 rfl ?_;refine dcell R4 fun b hc=>⟨_,hc 0 _ rfl,_,hc 1 _ rfl,_,hc 2 _ rfl,_,hc 3 _ rfl,_,_,_,_,_,_,_,_,_,_,rfl,?_⟩
           refine g8 (f:=eS) (x:=p) xW ov pf cD (iK p) rfl rfl (by omega) H4 fun a2 c2 h5 H6=>?_;rw [wi];refine ⟨⟨i+1,a2,c2,zs.take (i+1),false,by rw [htk,ao]; rfl,by omega,by rw [au]; omega,.inl ⟨rfl,fun p' hp'=>?_,rfl⟩,by rw [htk,ao]; exact H6⟩,hmeas⟩;rw [htk] at hp'
           rcases List.mem_append.1 hp' with hp' | hp'
           · exact hall p' hp'
           · rw [mem_singleton] at hp';rw [hp'];exact hgt
       · rw [aB,ab];refine bH (a:=q.da) (l:=A.dirs.length) (m:=q.dc) R4 rfl ?_;refine dcell R4 fun b hc=>⟨_,hc 0 _ rfl,_,hc 1 _ rfl,_,hc 2 _ rfl,_,hc 3 _ rfl,_,_,_,_,_,_,_,_,_,_,rfl,?_⟩
         refine g8 (f:=eS) (x:=p) xW ov pf cD (iK p) rfl rfl (by omega) H4 fun a2 c2 h5 H6=>?_;rw [wi];exact ⟨⟨i+1,a2,c2,out++[p],true,by rw [ao]; rfl,by omega,by rw [ao,length_singleton]; omega,.inr ⟨rfl,by rw [← hins,hdrop,append_assoc]; rfl⟩,by rw [ao]; exact H6⟩,hmeas⟩
     · rw [af (by omega),ab]
       rcases hcase with ⟨rfl,hall,rfl⟩ | ⟨rfl,hins⟩
       · rw [aC,ae];have et:zs.take i=zs:=av (by omega);rw [et] at hall H4 hol ⊢;have hin:eZ e0 zs=zs++[e0]:=by
          have:=mR e0 (l2:=[]) hall;rw [append_nil] at this;exact this
         refine g8 (f:=eS) (x:=e0) xW ov pf cD (iK e0) rfl rfl (by omega) H4 fun a2 c2 h5 H6=>?_;have el:zs.length+1=(eZ e0 zs).length:=by rw [hin,ao,length_singleton]
         rw [el,← hin] at H6;rw [el];exact fin a2 c2 h5 H6
       · rw [aB,ab];rw [List.drop_eq_nil_of_le (by omega),append_nil] at hins;subst hins;exact fin oa oc h3 H4
   · have:((e:Int)!=61)=true:=by rw [bne_iff_ne]; omega
     rw [this,ae,am h61];exact ⟨rfl,H⟩
end
section
variable {m i:Nat} {A:AF.FS} {q:g5} {d d':AF.cu} {x x':gt} {F:List aF} {h:Heap} {dir name:ByteArray}
theorem zz {at_:Int} {turn:Nat} (W:A.WF) (ht:turn<256) (H:aG (bd m A::F) h) :
  aE prog 71 [aM m,.string dir,.string name,.int .i64 at_,.int .u8 (turn:Int)] h fun v h'=>v=.int .i64 ((A.spoil dir name at_ turn).2:Int)∧aG (bd m (A.spoil dir name at_ turn).1::F) h':=by
 apply Bs.ap
 unfold Gd
 have hfew:=W.few
 refine (m5 (by omega) H).mono ?_
 rintro v h1 ⟨rfl,rfl⟩
 rw [mO]
 cases hr:A.named dir [name] with
 | error e=>
   have eA:A.spoil dir name at_ turn=(A,e):=by unfold AF.FS.spoil; rw [hr]
   refine ⟨_,_,rfl,?_⟩;rw [aX (AF.qH hr),ae,eA];exact ⟨rfl,H⟩
 | ok i=>
   obtain ⟨_,_,d,hd,_⟩:=AF.mh hr;have eA:A.spoil dir name at_ turn=match AF.of d.now name with
    | none=>(A,62)
    | some x=>if at_<0∨((A.X x).b.length:Int)≤at_ then (A,2) else (A.setFile x fun y=>{ y with b:=y.b.modify at_.toNat (· ^^^ turn) },0):=by
    unfold AF.FS.spoil;rw [hr];dsimp only;rw [AF.iR hd] <;> rfl
   rw [eA];refine ⟨_,_,rfl,?_⟩;rw [show ((0:Int)!=0)=false from rfl,ab];obtain ⟨q,hq,H1⟩:=bS H;obtain ⟨x,hx,_⟩:=cL hq hd (H1.mv 3 |>.mv 3);have hok:=(W.each d (aj hd)).ok;have hnl:=hok.few;simp only [aK];refine bH (a:=q.da) (l:=A.dirs.length) (m:=q.dc) H1 rfl ?_;refine ce hq hd hx H1 fun b hc=>p5 (hc 1 _ rfl) ?_;refine (ir (eO hq hd hx H1).1 rfl (by omega)).mono ?_;rintro v h2 ⟨rfl,rfl⟩;rw [aL]
   cases ho:AF.of d.now name with
   | none=>
     rw [show vD none = -1 from rfl,ah (by decide),ae];exact ⟨rfl,H⟩
   | some k=>
     rw [show vD (some k)=(k:Int) from rfl,af (by omega),ab];dsimp only;by_cases h1:at_<0
     · rw [ah h1,ae];simp only [h1,true_or,if_true];exact ⟨rfl,H⟩
     rw [af h1,ab];have hkf:=(hok.each _ (AF.jc ho)).1;obtain ⟨y,hy⟩:∃ y,A.files[k]? = some y:=⟨_,ai hkf⟩
     have hyW:=W.files y (aj hy);have hyl:=dC hyW.2.2;rw [AF.qf hy];refine bH (a:=q.fa) (l:=A.files.length) (m:=q.fc) H1 rfl ?_;refine dk hy H1 fun b e0 e1=>fE e0 ?_;rw [hyl];by_cases h2:((y.b.length:Nat):Int)≤at_
     · rw [ah (show at_≥(y.b.length:Int) from h2),ae,an (.inr h2)];exact ⟨rfl,H⟩
     rw [af (show ¬ at_≥(y.b.length:Int) from h2),ab,am (by rintro (h | h); exact h1 h; exact h2 h)];obtain ⟨p,rfl⟩:∃ p:Nat,at_=(p:Int):=⟨at_.toNat,by omega⟩
     rw [Int.toNat_natCast];refine bH (a:=q.fa) (l:=A.files.length) (m:=q.fc) H1 rfl ?_;refine dk hy H1 fun b e0 e1=>fE e0 ?_;refine zf H1 (by rw [hyl]; unfold maxLen; omega) fun ba bc h3 H3=>?_;rw [aI];have esb:sb (dW y.b)=y.b:=dx hyW.2.2;rw [esb,hyl] at H3;rw [hyl];obtain ⟨n,hn⟩:∃ n,y.b[p]? = some n:=⟨_,ai (by omega)⟩
     have hn8:=hyW.2.2 n (aj hn);have hget:(y.b.map nv)[p]? = some (nv n):=by rw [List.getElem?_map,hn]; rfl
     refine bj (aH H3) (aq ..) hget fun b1 hb1 hc1=>⟨_,hc1,_,rfl,?_⟩
     refine bj (aH H3) (aq ..) hget fun b2 hb2 hc2=>?_;rw [De hn8 ht,aP];rw [hb2] at H3;refine cO H3 (by rw [aq]; omega) fun h4 H4=>?_;have eset:(y.b.map nv).set p (.int .u8 ((n ^^^ turn:Nat):Int))=(y.b.modify p (· ^^^ turn)).map nv:=by
      rw [cT (· ^^^ turn) hn,map_set]
      rfl
     rw [eset] at H4;have el:(y.b.modify p (· ^^^ turn)).length=y.b.length:=length_modify ..;have m8:B8 (y.b.modify p (· ^^^ turn)):=by
      intro k hk
      rcases AF.gF hk with hk | ⟨d,hd,rfl⟩
      · exact hyW.2.2 k hk
      · exact Nat.xor_lt_two_pow (n:=8) (hyW.2.2 d (aj hd)) ht
     refine bH (a:=q.fa) (l:=A.files.length) (m:=q.fc) H4.drop rfl ?_;refine ⟨dW (y.b.modify p (· ^^^ turn)),?_,?_⟩
     · rw [hb2];exact fT (aH H4) el m8
     · refine ju (A:=A) (m:=m) (y':={ y with b:=y.b.modify p (· ^^^ turn) }) hy (j:=0) (by decide) rfl H4.drop fun h5 H5=>?_;unfold fQ at H5;rw [lA (g:=fun y=>{ y with b:=y.b.modify p (· ^^^ turn) }) hy] at H5;exact ⟨rfl,dg (A:=A.setFile k fun y=>{ y with b:=y.b.modify p (· ^^^ turn) }) hq H5⟩
end
section
variable {m i:Nat} {A:AF.FS} {q:g5} {d d':AF.cu} {x x':gt} {F:List aF} {h:Heap} {dir name:ByteArray}
theorem nr {bs:ByteArray} {Q:Value→Heap→Prop} {hh:Heap} (W:A.WF) (hq:q.qs.length=A.dirs.length) (hd:A.dirs[i]? = some d) (hm:A.files.length<1099511627776) (H:fQ m A q F hh)
  (hQ:∀ h',aG (bd m (A.planted i name (sb bs))::F) h'→Q (.int .i64 0) h') :
  aR (some ⟨m,0,none⟩) fun a18=>
  Ld hh (a18.add 4) fun v14=>aZ v14 fun x19a x19l x19c=>
  Al hh (.cells #[.string bs,.int .i64 ((bs:ByteArray).size:Int)] 199) fun b2 h_13=>
  bB prog (append_ #[106,106] 106 #[.slice x19a x19l x19c,.slice (some (Addr.mk b2 0 none)) 1 1]) h_13 fun r10 h_14=>
  aZ r10 fun x20a x20l x20c=>
  aR (some ⟨m,0,none⟩) fun a19=>
  bN h_14 ((a19.add 4).add 0) (.slice x20a x20l x20c) fun h_16=>
  aR (some ⟨m,0,none⟩) fun a20=>
  Ld h_16 (a20.add 5) fun v15=>aZ v15 fun x21a x21l x21c=>
  aR (some ⟨m,0,none⟩) fun a21=>
  Ld h_16 (a21.add 5) fun v16=>aZ v16 fun x22a x22l x22c=>
  aO x22a x22l (i:Int) 4 fun a22=>
  Ld h_16 (a22.add 1) fun v17=>aZ v17 fun x23a x23l x23c=>
  aR (some ⟨m,0,none⟩) fun a23=>
  Ld h_16 (a23.add 4) fun v18=>aZ v18 fun x24a x24l x24c=>
  aE prog 121 [.slice x23a x23l x23c,.string name,.int .i64 (wrap .i64 ((x24l:Int) - 1))] h_16 fun r12 h_17=>
  aZ r12 fun x25a x25l x25c=>
  (aJ (some (.pointer (some ⟨m,0,none⟩))) (.pointer (some ⟨m,0,none⟩)))∧
  (aR (some ⟨m,0,none⟩) fun a24=>
  aJ (some (.pointer (some a20))) (.pointer (some a24)))∧
  (aJ (some (.pointer (some (a20.add 5)))) (.pointer (some (a20.add 5))))∧
  (Ld h_17 (a20.add 5) fun v19=>aZ v19 fun x26a x26l x26c=>
  aJ (some (.slice x21a x21l x21c)) (.slice x26a x26l x26c))∧
  (aJ (some (.int .i64 (i:Int))) (.int .i64 (i:Int)))∧
  aO x21a x21l (i:Int) 4 fun a25=>
  bN h_17 ((a25.add 1).add 0) (.slice x25a x25l x25c) fun h_19=>
  aR (some ⟨m,0,none⟩) fun a26=>
  Ld h_19 (a26.add 5) fun v20=>aZ v20 fun x27a x27l x27c=>
  aR (some ⟨m,0,none⟩) fun a27=>
  Ld h_19 (a27.add 5) fun v21=>aZ v21 fun x28a x28l x28c=>
  aO x28a x28l (i:Int) 4 fun a28=>
  Ld h_19 (a28.add 1) fun v22=>aZ v22 fun x29a x29l x29c=>
  aO x27a x27l (i:Int) 4 fun a29=>
  bN h_19 ((a29.add 2).add 0) (.slice x29a x29l x29c) fun h_21=>
  aR (some ⟨m,0,none⟩) fun a30=>
  Ld h_21 (a30.add 5) fun v23=>aZ v23 fun x30a x30l x30c=>
  aO x30a x30l (i:Int) 4 fun a31=>
  bN h_21 ((a31.add 3).add 0) (.slice none 0 0) fun h_23=>
  Q (.int .i64 0) h_23:=by
 simp only [aK]
 obtain ⟨x,hx,_⟩:=cL hq hd (H.mv 3 |>.mv 3)
 have hok:=(W.each d (aj hd)).ok
 have hnl:=hok.few
 have hsl:=bE bs
 refine bH (a:=q.fa) (l:=A.files.length) (m:=q.fc) H rfl ?_
 refine oF (A:=A) (q:=q) (m:=m) (y:=⟨sb bs,(sb bs).length⟩) (by show [Value.string bs,.int .i64 (bs.size:Int)]=[Value.string (dW (sb bs)),.int .i64 (((sb bs).length:Nat):Int)]; rw [yH,hsl]) hm H fun fa fc h2 H2=>?_
 have hfl:({ A with files:=A.files++[⟨sb bs,(sb bs).length⟩] }:AF.FS).files.length=A.files.length+1:=by show (A.files++[_]).length=_; rw [ao,length_singleton]
 generalize hA1:({ A with files:=A.files++[⟨sb bs,(sb bs).length⟩] }:AF.FS)=A1 at H2 hfl
 generalize hq1e:({ q with fa:=fa,fc:=fc }:g5)=q1 at H2
 have hd1:A1.dirs[i]? = some d:=by rw [← hA1]; exact hd
 have hx1:q1.qs[i]? = some x:=by rw [← hq1e]; exact hx
 have hq1:q1.qs.length=A1.dirs.length:=by rw [← hA1,← hq1e]; exact hq
 refine bH (a:=q1.da) (l:=A1.dirs.length) (m:=q1.dc) H2 rfl ?_
 refine bH (a:=q1.da) (l:=A1.dirs.length) (m:=q1.dc) H2 rfl ?_
 refine ce hq1 hd1 hx1 H2 fun b hc=>p5 (hc 1 _ rfl) ?_
 refine bH (a:=q1.fa) (l:=A1.files.length) (m:=q1.fc) H2 rfl ?_
 have w:wrap .i64 ((A1.files.length:Int) - 1)=(A.files.length:Int):=by rw [hfl,IntWalk.i64_in _ (by omega)]; omega
 rw [w]
 refine (m4 hok.up (fun h' hh=>(eO hq1 hd1 hx1 hh).1) rfl (by omega) H2).mono ?_
 rintro v h3 ⟨na,nc,rfl,H3⟩
 rw [aI]
 refine ⟨rfl,rfl,rfl,bH (a:=q1.da) (l:=A1.dirs.length) (m:=q1.dc) (H3.mv 1) rfl rfl,rfl,?_⟩
 have K1:=qN (c':=nc) hd1 hx1 ((rP H3).ordT 5 [4,0,1,2,3])
 refine ke (A:=A1) (q:=q1) (m:=m) (d':=(⟨d.name,AF.ins name A.files.length d.now,d.base,d.pend⟩:AF.cu)) (x':=(⟨na,nc,x.ba,x.bc,x.pa,x.pc⟩:gt)) hq1 hd1 hx1 (by decide) rfl (K1.ordT 4 [1,2,3,0]) fun h4 H4=>?_
 have hd2:=gL (y:=(⟨d.name,AF.ins name A.files.length d.now,d.base,d.pend⟩:AF.cu)) hd1
 have hx2:=gL (y:=(⟨na,nc,x.ba,x.bc,x.pa,x.pc⟩:gt)) hx1
 have hq2:(q1.qs.set i (⟨na,nc,x.ba,x.bc,x.pa,x.pc⟩:gt)).length=(A1.dirs.set i (⟨d.name,AF.ins name A.files.length d.now,d.base,d.pend⟩:AF.cu)).length:=by rw [length_set,length_set,hq1]
 generalize hA3:({ A1 with dirs:=A1.dirs.set i (⟨d.name,AF.ins name A.files.length d.now,d.base,d.pend⟩:AF.cu) }:AF.FS)=A3 at H4
 generalize hQ3:({ q1 with qs:=q1.qs.set i (⟨na,nc,x.ba,x.bc,x.pa,x.pc⟩:gt) }:g5)=q3 at H4
 have hd4:A3.dirs[i]? = some ⟨d.name,AF.ins name A.files.length d.now,d.base,d.pend⟩:=by rw [← hA3]; exact hd2
 have hx4:q3.qs[i]? = some ⟨na,nc,x.ba,x.bc,x.pa,x.pc⟩:=by rw [← hQ3]; exact hx2
 have hq4:q3.qs.length=A3.dirs.length:=by rw [← hA3,← hQ3]; exact hq2
 refine bH (a:=q3.da) (l:=A3.dirs.length) (m:=q3.dc) H4 rfl ?_
 refine bH (a:=q3.da) (l:=A3.dirs.length) (m:=q3.dc) H4 rfl ?_
 refine ce hq4 hd4 hx4 H4 fun b hc=>p5 (hc 1 _ rfl) ?_
 refine ni (A:=A3) (q:=q3) hq4 hd4 hx4 H4 fun h' H'=>hQ h' ?_
 have eA:(A3.setDir i fun d=>{ d with base:=d.now,pend:=[] })=A.planted i name (sb bs):=by
  rw [← hA3,← hA1];unfold AF.FS.planted AF.FS.setDir;dsimp only;rw [cT (fun d=>{ d with base:=d.now,pend:=[] }) (gL hd),set_set,cT (fun d:AF.cu=>{ d with now:=AF.ins name A.files.length d.now,base:=AF.ins name A.files.length d.now,pend:=[] }) hd]
 rw [eA] at H'
 exact H'
theorem zy {bs:ByteArray} (W:A.WF) (hm:A.files.length<1099511627776) (H:aG (bd m A::F) h) :
  aE prog 72 [aM m,.string dir,.string name,.string bs] h fun v h'=>v=.int .i64 ((A.plant dir name (sb bs)).2:Int)∧aG (bd m (A.plant dir name (sb bs)).1::F) h':=by
 apply Br.ap
 unfold Gc
 have hfew:=W.few
 have hsl:=bE bs
 refine (m5 (by omega) H).mono ?_
 rintro v h1 ⟨rfl,rfl⟩
 rw [mO]
 cases hr:A.named dir [name] with
 | error e=>
   have eA:A.plant dir name (sb bs)=(A,e):=by unfold AF.FS.plant; rw [hr]
   refine ⟨_,_,rfl,?_⟩;rw [aX (AF.qH hr),ae,eA];exact ⟨rfl,H⟩
 | ok i=>
   obtain ⟨_,_,d,hd,_⟩:=AF.mh hr;have eA:A.plant dir name (sb bs)=if 16777216<bs.size then (A,67) else if (AF.of d.now name).isNone∧4096≤d.now.length then (A,66) else (A.planted i name (sb bs),0):=by
    unfold AF.FS.plant;rw [hr];dsimp only;rw [AF.iR hd,hsl]
   rw [eA];refine ⟨_,_,rfl,?_⟩;rw [show ((0:Int)!=0)=false from rfl,ab];by_cases c1:16777216<bs.size
   · rw [ah (show ((bs.size:Int)>16777216) by omega),ae,an c1];exact ⟨rfl,H⟩
   rw [af (show ¬ ((bs.size:Int)>16777216) by omega),ab,am c1];obtain ⟨q,hq,H1⟩:=bS H;obtain ⟨x,hx,_⟩:=cL hq hd (H1.mv 3 |>.mv 3);have hok:=(W.each d (aj hd)).ok;have hnl:=hok.few;rw [aK];refine bH (a:=q.da) (l:=A.dirs.length) (m:=q.dc) H1 rfl ?_;refine ce hq hd hx H1 fun b hc=>p5 (hc 1 _ rfl) ?_;refine (ir (eO hq hd hx H1).1 rfl (by omega)).mono ?_;rintro v h2 ⟨rfl,rfl⟩;rw [aL]
   cases ho:AF.of d.now name with
   | none=>
     rw [show vD none = -1 from rfl,ah (by decide),ae,aK];refine bH (a:=q.da) (l:=A.dirs.length) (m:=q.dc) H1 rfl ?_;refine ce hq hd hx H1 fun b hc=>p5 (hc 1 _ rfl) ?_;by_cases c2:4096≤d.now.length
     · rw [ah (show ((d.now.length:Int)≥4096) by omega),ae,an ⟨rfl,c2⟩];exact ⟨rfl,H⟩
     · rw [af (show ¬ ((d.now.length:Int)≥4096) by omega),ab,am (fun hh=>c2 hh.2)];exact nr (Q:=fun v h'=>v=.int .i64 (((A.planted i name (sb bs),0):AF.FS×Nat).2:Int)∧aG (bd m ((A.planted i name (sb bs),0):AF.FS×Nat).1::F) h') W hq hd hm H1 fun h' H'=>⟨rfl,H'⟩
   | some k=>
     rw [show vD (some k)=(k:Int) from rfl,af (by omega),ab,am (fun hh=>by cases hh.1)];exact nr (Q:=fun v h'=>v=.int .i64 (((A.planted i name (sb bs),0):AF.FS×Nat).2:Int)∧aG (bd m ((A.planted i name (sb bs),0):AF.FS×Nat).1::F) h') W hq hd hm H1 fun h' H'=>⟨rfl,H'⟩
end
section
variable {m i:Nat} {A:AF.FS} {q:g5} {d d':AF.cu} {x x':gt} {F:List aF} {h:Heap} {dir name:ByteArray}
theorem ur {ps:List Int} {a:Option Addr} {l c k:Nat} (hp:sr F ps a l c) (hk:k<9223372036854775807) :
  ∃ (a2:Option Addr) (l2 c2:Nat),sr F (AF.pick ps k).2 a2 l2 c2∧∀ h,aG F h→aE prog 118 [.slice a l c,.int .i64 (k:Int)] h fun v h'=>v=.tuple #[.int .i64 ((AF.pick ps k).1:Int),.slice a2 l2 c2]∧h'=h:=by
 cases ps with
 | nil=>
   have hl:l=0:=hp.len.symm;subst hl;refine ⟨a,0,c,hp,fun h hF=>?_⟩;apply uq.ap;unfold Af;exact ⟨rfl,rfl⟩
 | cons p ps=>
   have hl:=hp.len;have hcap:=hp.cap;rw [ar] at hl;refine ⟨fG a 1 c 1,l - 1,c - 1,⟨by show ps.length=l - 1; omega,by omega,fun h' hh=>?_⟩,fun h hF=>?_⟩
   · have:=(hp.read h' hh).sub 1 (l - 1) c (by omega);have e:((List.map iv (p::ps)).drop 1).take (l - 1)=ps.map iv:=by
      rw [map_cons,List.drop_one,List.tail_cons,av (by rw [aq]; omega)]
     rw [e] at this;exact this
   · apply uq.ap;unfold Af;rw [show (((l:Nat):Int)==0)=false by rw [beq_eq_false_iff_ne]; omega,ab];refine bj (i:=0) (v:=iv p) (hp.read h hF) (by rw [aq,ar]; exact hl) rfl fun b hb hcell=>⟨_,hcell,_,rfl,?_⟩
     have w1:wrap .i64 ((k:Int)+1)=((k+1:Nat):Int):=aN hk;have w2:wrap .u64 ((k+1:Nat):Int)=((k+1:Nat):Int):=IntWalk.u64_in _ (by omega);rw [w1,w2];refine ⟨by omega,?_⟩;refine dI (lo:=1) (hi:=l) (mx:=c) (by omega) hcap (ax _) ?_;have wp:wrap .u64 p=((wrap .u64 p).toNat:Int):=by
      rw [IntKind.wrap_u64];omega
     have hmod:=Nat.mod_lt (wrap .u64 p).toNat (show 0<k+1 by omega);refine ⟨?_,rfl⟩;rw [wp,j8,dh (by omega)]
     rfl
theorem jf (ps:List Int) (i:Nat):(eP A ps i).length=A.dirs.length:=by
 unfold eP
 rw [ao,AF.cU,au,length_drop]
 omega
theorem wX (hd:A.dirs[i]? = some d) (hx:q.qs[i]? = some x) (H:aG (cp A q::F) h):aG (jH x.ba (d.base.flatMap cn)::cp A q::F) h:=by
 have H2:=gU H hd hx
 have H3:aG (jH x.na (d.now.flatMap cn)::jH x.ba (d.base.flatMap cn)::jH x.pa (d.pend.flatMap mN)::qe cW A.dirs q.qs i::F) h:=H2.open
 have H4:=aG.dup (oD _ _) (H3.mv 1)
 have H5:aG (cW d x::qe cW A.dirs q.qs i::jH x.ba (d.base.flatMap cn)::F) h:=aG.shut (m:=[jH x.na (d.now.flatMap cn),jH x.ba (d.base.flatMap cn),jH x.pa (d.pend.flatMap mN)]) (H4.ordT 5 [2,0,3,4,1])
 exact (qK hd hx H5).mv 1
theorem wE {l':AF.bG} {na:Option Addr} {nc:Nat} {K:Heap→Prop} (hq:q.qs.length=A.dirs.length) (hd:A.dirs[i]? = some d) (hx:q.qs[i]? = some x) (H:aG (jH na (l'.flatMap cn)::pt m (.cells (fi A q) 109 (0,0))::cF A q::dF A q::cp A q::F) h)
  (hK:∀ h',fQ m { A with dirs:=A.dirs.set i ⟨d.name,l',l',[]⟩ } { q with qs:=q.qs.set i ⟨na,nc,na,nc,none,0⟩ } F h'→K h') :
  aO q.da A.dirs.length (i:Int) 4 fun a11=>bN h (a11.add 0) (.string d.name) fun h_5=>bN h_5 (a11.add 1) (.slice na l'.length nc) fun h_6=>bN h_6 (a11.add 2) (.slice na l'.length nc) fun h_7=>bN h_7 (a11.add 3) (.slice none 0 0) K:=by
 have hz:(A.dirs.zip q.qs)[i]? = some (d,x):=by rw [zip_eq_zipWith,getElem?_zipWith,hd,hx]
 have hzl:i<(A.dirs.zip q.qs).length:=(ak.1 hz).1
 refine dp cD (by decide) (aH (H.mv 3)) (ib hq) hz fun b hb _=>?_
 have K0:=aG.dup (oD _ _) H
 have K1:aG (cp A q::jH na (l'.flatMap cn)::jH na (l'.flatMap cn)::dF A q::pt m (.cells (fi A q) 109 (0,0))::cF A q::F) h:=K0.ordT 6 [5,0,1,4,2,3]
 have K2:aG (bP (zipWith cW (A.dirs.set i ⟨d.name,l',l',[]⟩) (q.qs.set i ⟨na,nc,na,nc,none,0⟩))::dF A q::pt m (.cells (fi A q) 109 (0,0))::cF A q::F) h:=by
  have J:=gU K1 hd hx;have J2:=jt (J.drop);have J3:aG (cW ⟨d.name,l',l',[]⟩ ⟨na,nc,na,nc,none,0⟩::qe cW A.dirs q.qs i::dF A q::pt m (.cells (fi A q) 109 (0,0))::cF A q::F) h:=
   aG.shut (m:=[jH na (l'.flatMap cn),jH na (l'.flatMap cn),jH none []]) (J2.ordT 7 [2,3,0,1,4,5,6])
  exact o8 (ak.1 hd).1 (ak.1 hx).1 J3
 have K3:=K2.mv 1
 unfold dF at K3
 rw [hb] at K3
 have set1:∀ {zs:List sD} {p:sD} {j:Nat} {v:Value} {h1:Heap} {G:List aF} (p':sD) {Kk:Heap→Prop},aG (aQ 144 4 (some b) A.dirs.length q.dc (zs.flatMap eS)::G) h1→zs[i]? = some p→j<4→(eS p).set j v=eS p'→
   (∀ h2,aG (aQ 144 4 (some b) A.dirs.length q.dc ((zs.set i p').flatMap eS)::G) h2→Kk h2)→bN h1 ((b.add (i*4)).add j) v Kk:=by
  intro zs p j v h1 G p' Kk HH hp hj hc hKk;have:=oR (K:=Kk) p' cD HH hp hj hc hKk;rw [aP] at this;exact this
 refine set1 (d,x) K3 hz (by decide) rfl fun h1 H1=>?_
 rw [jp hz] at H1
 refine set1 (⟨d.name,l',d.base,d.pend⟩,⟨na,nc,x.ba,x.bc,x.pa,x.pc⟩) H1 hz (by decide) rfl fun h2 H2=>?_
 refine set1 (⟨d.name,l',l',d.pend⟩,⟨na,nc,na,nc,x.pa,x.pc⟩) H2 (gL hz) (by decide) rfl fun h3 H3=>?_
 rw [set_set] at H3
 refine set1 (⟨d.name,l',l',[]⟩,⟨na,nc,na,nc,none,0⟩) H3 (gL hz) (by decide) rfl fun h4 H4=>hK h4 ?_
 rw [set_set,vq,← hb] at H4
 have H5:=H4.ordT 4 [2,3,0,1]
 unfold fQ cF dF cp fi at *
 dsimp only at *
 rw [length_set]
 exact H5
end
section
variable {m i:Nat} {A:AF.FS} {q:g5} {d d':AF.cu} {x x':gt} {F:List aF} {h:Heap} {dir name:ByteArray}
theorem AQ {n:Nat} {l:AF.bG} {o:AF.Op} (h:AF.Fits n l o):yF l o:=by
 cases o with
 | create a f=>trivial
 | rename a b=>exact h.2.2
 | remove a=>trivial
theorem tI {b:List Nat} {k:Nat} (h8:B8 b) (hk:k≤b.length):(dW b).extract (0:Int).toNat ((k:Nat):Int).toNat=dW (b.take k):=by
 apply jL
 rw [dR,dx h8,dx (h8.take k)]
 simp
theorem zA {ps:List Int} {pa:Option Addr} {pl pc:Nat} (W:A.WF) (hp:sr F ps pa pl pc) (hs:A.steps<1099511627776) (H:aG (bd m A::F) h) :
  aE prog 70 [aM m,.slice pa pl pc] h fun v h'=>v=.tuple #[]∧aG (bd m (A.crash ps)::F) h':=by
 apply Bu.ap
 unfold Ge
 have hfew:=W.few
 have W2:=W.crash ps
 simp only [aK]
 obtain ⟨q0,hq0,H0⟩:=bS H
 let At:Nat→AF.FS:=fun i=>{ A with dirs:=eP A ps i }
 have hAt0:At 0=A:=by
  show ({ A with dirs:=(AF.bW (A.dirs.take 0) ps).1++A.dirs.drop 0 }:AF.FS)=A
  rfl
 refine ⟨fun st hh=>∃ (i:Nat) (a:Option Addr) (l c:Nat) (q:g5),st=(⟨a,l,c⟩,(i:Int))∧i≤A.dirs.length∧sr F (fM A ps i) a l c∧q.qs.length=(At i).dirs.length∧fQ m (At i) q F hh,
  fun st _=>((A.dirs.length:Int) - st.2).toNat,⟨0,pa,pl,pc,q0,rfl,aw _,hp,hq0,H0⟩,?_⟩
 rintro st h1 ⟨i,a,l,c,q,rfl,hi,hpk,hq,H1⟩
 have hdl:(At i).dirs.length=A.dirs.length:=jf ps i
 refine bH (a:=q.da) (l:=(At i).dirs.length) (m:=q.dc) H1 rfl ?_
 dsimp only
 rw [hdl]
 by_cases hlt:i<A.dirs.length
 · rw [ah (show ((i:Int)<(A.dirs.length:Int)) by omega),ae];obtain ⟨d,hdi⟩:∃ d,A.dirs[i]? = some d:=⟨_,ai hlt⟩
   have w:=W.each d (aj hdi);have hpl:=w.pend;have hd:(At i).dirs[i]? = some d:=lK hdi;obtain ⟨x,hx,_⟩:=cL hq hd (H1.mv 3 |>.mv 3);refine bH (a:=q.da) (l:=(At i).dirs.length) (m:=q.dc) H1 rfl ?_;refine ce hq hd hx H1 fun b hc=>p5 (hc 3 _ rfl) ?_;obtain ⟨a2,l2,c2,hpk2,hcall⟩:=ur (k:=d.pend.length) hpk (by omega);refine (hcall h1 (H1.rest 4)).mono ?_;rintro v h2 ⟨rfl,rfl⟩;refine ⟨_,a2,l2,c2,rfl,?_⟩;refine bH (a:=q.da) (l:=(At i).dirs.length) (m:=q.dc) H1 rfl ?_;refine ce hq hd hx H1 fun b hc=>p5 (hc 2 _ rfl) ?_;have hple:=AF.l7 (fM A ps i) d.pend.length;have hnext:=nH (ps:=ps) hdi;generalize hk:(AF.pick (fM A ps i) d.pend.length).1=k at hple hnext;have H2:aG (jH x.ba (d.base.flatMap cn)::pt m (.cells (fi (At i) q) 109 (0,0))::cF (At i) q::dF (At i) q::cp (At i) q::F) h2:=(wX hd hx (H1.mv 3)).ordT 5 [0,2,3,4,1];refine ⟨fun st hh=>∃ (j:Nat) (na:Option Addr) (nc:Nat),st=(⟨na,(AF.gC d.base (d.pend.take j)).length,nc⟩,(j:Int))∧j≤k∧aG (jH na ((AF.gC d.base (d.pend.take j)).flatMap cn)::pt m (.cells (fi (At i) q) 109 (0,0))::cF (At i) q::dF (At i) q::cp (At i) q::F) hh,
    fun st _=>((k:Int) - st.2).toNat,⟨0,x.ba,x.bc,rfl,aw _,H2⟩,?_⟩
   rintro st h3 ⟨j,na,nc,rfl,hj,H3⟩;have R3:=H3.drop;dsimp only;by_cases hjk:j<k
   · rw [ah (show ((j:Int)<(k:Int)) by omega),ae];obtain ⟨o,ho⟩:∃ o,d.pend[j]? = some o:=⟨_,ai (by omega)⟩
     obtain ⟨o0,o1,o2,o3,hoC⟩:=Ds o;refine bH (a:=q.da) (l:=(At i).dirs.length) (m:=q.dc) R3 rfl ?_;refine ce hq hd hx R3 fun b hc=>p5 (hc 3 _ rfl) ?_;refine dp rY (by decide) (eO hq hd hx R3).2.2 rfl ho fun b hb hc=>⟨_,hc 0 _ (by rw [hoC]; rfl),_,hc 1 _ (by rw [hoC]; rfl),_,hc 2 _ (by rw [hoC]; rfl),_,hc 3 _ (by rw [hoC]; rfl),_,_,_,_,rfl,?_⟩
     obtain ⟨hok,hfit⟩:=w.runs.at j ho;have e118:Value.agg #[.int .i64 o0,.string o1,.string o2,.int .i64 o3]=.agg (mN o).toArray:=by rw [hoC]
     rw [e118];have hfl:=hok.few;refine (rD hok.up (AQ hfit) (fun h' hh=>lU hh) rfl (by omega) H3).mono ?_;rintro v h4 ⟨na2,nc2,rfl,H4⟩;rw [aI,aN (by omega)];have e:AF.gC d.base (d.pend.take (j+1))=AF.does (AF.gC d.base (d.pend.take j)) o:=by
      rw [az,ho];exact AF.mK _ _ _
     rw [← e] at H4 ⊢;exact ⟨⟨j+1,na2,nc2,rfl,by omega,((rP H4).mv 1).drop⟩,by show ((k:Int) - ((j+1:Nat):Int)).toNat<((k:Int) - (j:Int)).toNat; omega⟩
   · rw [af (by omega),ab];have ejk:j=k:=by omega
     subst ejk;refine bH (a:=q.da) (l:=(At i).dirs.length) (m:=q.dc) R3 rfl ?_;refine bH (a:=q.da) (l:=(At i).dirs.length) (m:=q.dc) R3 rfl ?_;refine ce hq hd hx R3 fun b hc=>fE (hc 0 _ rfl) ?_;refine wE (A:=At i) (q:=q) hq hd hx H3 fun h4 H4=>?_;rw [aN (by omega)];have eA:({ At i with dirs:=(At i).dirs.set i ⟨d.name,AF.gC d.base (d.pend.take j),AF.gC d.base (d.pend.take j),[]⟩ }:AF.FS)=At (i+1):=by
      show ({ A with dirs:=(eP A ps i).set i _ }:AF.FS)={ A with dirs:=eP A ps (i+1) }
      rw [hnext.1]
      rfl
     unfold fQ at H4;rw [eA] at H4;refine ⟨⟨i+1,a2,l2,c2,_,rfl,by omega,by rw [hnext.2]; exact hpk2,?_,H4⟩,by show ((A.dirs.length:Int) - ((i+1:Nat):Int)).toNat<((A.dirs.length:Int) - (i:Int)).toNat; omega⟩;show (q.qs.set i _).length=_;rw [length_set,hq,hdl];exact (jf ps (i+1)).symm
 · rw [af (by omega),ab];have ei:i=A.dirs.length:=by omega
   subst ei;have hD:(A.crash ps).dirs=eP A ps A.dirs.length:=pD ps
   let xsAt:Nat→List Nat:=fun j=>((A.crash ps).dirs.take j).flatMap fun (e:AF.cu)=>e.now.map (·.2)
   let Bt:List Nat→AF.FS:=fun xs=>{ A with dirs:=(A.crash ps).dirs,files:=(bL A ps xs).1 }
   have hB0:At A.dirs.length=Bt []:=by
    show ({ A with dirs:=eP A ps A.dirs.length }:AF.FS)={ A with dirs:=(A.crash ps).dirs,files:=(bL A ps []).1 }
    rw [hD]
    rfl
   have hDl:(A.crash ps).dirs.length=A.dirs.length:=by rw [hD,jf]
   rw [hB0] at H1 hq;have hxs0:xsAt 0=[]:=rfl;refine ⟨fun st hh=>∃ (j:Nat) (a:Option Addr) (l c:Nat),st=(⟨a,l,c⟩,(j:Int))∧j≤A.dirs.length∧sr F (bL A ps (xsAt j)).2 a l c∧fQ m (Bt (xsAt j)) q F hh,
    fun st _=>((A.dirs.length:Int) - st.2).toNat,⟨0,a,l,c,rfl,aw _,hpk,H1⟩,?_⟩
   rintro st h2 ⟨j,a,l,c,rfl,hj,hpk,H2⟩;have hql:∀ xs,q.qs.length=(Bt xs).dirs.length:=fun xs=>hq;refine bH (a:=q.da) (l:=(Bt (xsAt j)).dirs.length) (m:=q.dc) H2 rfl ?_;dsimp only;by_cases hlt2:j<A.dirs.length
   · rw [ah (show ((j:Int)<(((A.crash ps).dirs.length:Nat):Int)) by omega),ae];obtain ⟨d,hdc⟩:∃ d,(A.crash ps).dirs[j]? = some d:=⟨_,ai (by omega)⟩
     have hok:=(W2.each d (aj hdc)).ok;have hnl:=hok.few;obtain ⟨x,hx⟩:∃ x,q.qs[j]? = some x:=⟨_,ai (by rw [hq]; show j<(A.crash ps).dirs.length; omega)⟩
     have hd:∀ xs,(Bt xs).dirs[j]? = some d:=fun xs=>hdc;have hsucc:xsAt (j+1)=xsAt j++d.now.map (·.2):=by
      show ((A.crash ps).dirs.take (j+1)).flatMap _=_;rw [az,hdc,flatMap_append];show _++(d.now.map (fun (p:ByteArray×Nat)=>p.2)++[])=_;rw [append_nil]
     let ysAt:Nat→List Nat:=fun n=>xsAt j++(d.now.take n).map (·.2)
     have hys0:ysAt 0=xsAt j:=by show xsAt j++[]=_; rw [append_nil]
     refine ⟨fun st hh=>∃ (n:Nat) (a:Option Addr) (l c:Nat),st=(⟨a,l,c⟩,(n:Int))∧n≤d.now.length∧sr F (bL A ps (ysAt n)).2 a l c∧fQ m (Bt (ysAt n)) q F hh,
      fun st _=>((d.now.length:Int) - st.2).toNat,⟨0,a,l,c,rfl,aw _,by rw [hys0]; exact hpk,by rw [hys0]; exact H2⟩,?_⟩
     rintro st h3 ⟨n,a,l,c,rfl,hn,hpk,H3⟩;refine bH (a:=q.da) (l:=(Bt (ysAt n)).dirs.length) (m:=q.dc) H3 rfl ?_;refine ce (hql _) (hd _) hx H3 fun b hc=>p5 (hc 1 _ rfl) ?_;dsimp only;by_cases hlt3:n<d.now.length
     · rw [ah (show ((n:Int)<(d.now.length:Int)) by omega),ae];obtain ⟨p,hpn⟩:∃ p,d.now[n]? = some p:=⟨_,ai hlt3⟩
       have hpf:=(hok.each p (aj hpn)).1;have hcl:(A.crash ps).files.length=A.files.length:=by rw [gZ,fk]
       have hfl:=fk (A:=A) ps (ysAt n);obtain ⟨y,hy⟩:∃ y,(bL A ps (ysAt n)).1[p.2]? = some y:=⟨_,ai (by omega)⟩
       have hyo:=pp W ps (ysAt n) y (aj hy);have hyl:=dC hyo.2.2;have hy2:(Bt (ysAt n)).files[p.2]? = some y:=hy;have hnx:=mq hy;have hys:ysAt (n+1)=ysAt n++[p.2]:=by
        show xsAt j++(d.now.take (n+1)).map (·.2)=xsAt j++(d.now.take n).map (·.2)++[p.2];rw [az,hpn,map_append,append_assoc]
        rfl
       rw [← hys] at hnx;have h1:=hyo.1;have h2':=hyo.2.1;refine bH (a:=q.da) (l:=(Bt (ysAt n)).dirs.length) (m:=q.dc) H3 rfl ?_;refine ce (hql _) (hd _) hx H3 fun b hc=>p5 (hc 1 _ rfl) ?_;refine dp cd (by decide) (eO (hql _) (hd _) hx H3).1 rfl hpn fun b hb hc=>nX (hc 1 _ rfl) ?_;have files:∀ {h':Heap} {B:AF.FS} {G:List aF} {K:Option Addr→Nat→Nat→Prop},fQ m B q G h'→K q.fa B.files.length q.fc→Ld h' ((⟨m,0,none⟩:Addr).add 4) fun v=>aZ v K:=fun HH hK=>bH (a:=q.fa) (m:=q.fc) HH rfl hK;refine files H3 ?_;refine dk hy2 H3 fun b e0 e1=>fE e0 ?_;refine files H3 ?_;refine dk hy2 H3 fun b e0 e1=>nX e1 ?_;have wn:wrap .i64 (((dW y.b).size:Int) - (y.safe:Int))=((y.b.length - y.safe:Nat):Int):=by rw [hyl,IntWalk.i64_in _ (by omega)]; omega
       rw [wn];obtain ⟨a2,l2,c2,hpk2,hcall⟩:=ur (k:=y.b.length - y.safe) hpk (by omega);refine ⟨_,hcall h3 (H3.rest 4),?_⟩;refine ⟨_,a2,l2,c2,rfl,?_⟩;have hkle:=AF.l7 (bL A ps (ysAt n)).2 (y.b.length - y.safe);generalize hk:(AF.pick (bL A ps (ysAt n)).2 (y.b.length - y.safe)).1=k at hkle hnx;refine files H3 ?_;refine files H3 ?_;refine dk hy2 H3 fun b e0 e1=>fE e0 ?_;refine files H3 ?_;refine dk hy2 H3 fun b e0 e1=>nX e1 ?_;have wk:wrap .i64 ((y.safe:Int)+(k:Int))=((y.safe+k:Nat):Int):=by rw [IntWalk.i64_in _ (by omega)]; omega
       rw [wk];refine ⟨by omega,by omega,by rw [hyl]; omega,?_⟩;rw [tI hyo.2.2 (by omega)];refine ju (A:=Bt (ysAt n)) (m:=m) (y':=⟨y.b.take (y.safe+k),y.safe⟩) hy2 (j:=0) (by decide) rfl H3 fun h4 H4=>?_;have hy4:({ Bt (ysAt n) with files:=(Bt (ysAt n)).files.set p.2 ⟨y.b.take (y.safe+k),y.safe⟩ }:AF.FS).files[p.2]? = some ⟨y.b.take (y.safe+k),y.safe⟩:=gL hy2;generalize hB4:({ Bt (ysAt n) with files:=(Bt (ysAt n)).files.set p.2 ⟨y.b.take (y.safe+k),y.safe⟩ }:AF.FS)=B4 at H4 hy4;refine files H4 ?_;refine files H4 ?_;refine dk hy4 H4 fun b e0 e1=>fE e0 ?_;have t8:B8 (y.b.take (y.safe+k)):=hyo.2.2.take _;have tl:(dW (y.b.take (y.safe+k))).size=y.safe+k:=by rw [dC t8,au]; omega
       rw [tl];refine ju (A:=B4) (m:=m) (y':=⟨y.b.take (y.safe+k),y.safe+k⟩) hy4 (j:=1) (by decide) rfl H4 fun h5 H5=>?_;rw [aN (by omega)];have eB:({ B4 with files:=B4.files.set p.2 ⟨y.b.take (y.safe+k),y.safe+k⟩ }:AF.FS)=Bt (ysAt (n+1)):=by
        rw [← hB4];show ({ A with dirs:=(A.crash ps).dirs,files:=((bL A ps (ysAt n)).1.set p.2 _).set p.2 _ }:AF.FS)={ A with dirs:=(A.crash ps).dirs,files:=(bL A ps (ysAt (n+1))).1 }
        rw [set_set,hnx]
       unfold fQ at H5;rw [eB] at H5;refine ⟨⟨n+1,a2,l2,c2,rfl,by omega,?_,H5⟩,by show ((d.now.length:Int) - ((n+1:Nat):Int)).toNat<((d.now.length:Int) - (n:Int)).toNat; omega⟩;rw [hnx];exact hpk2
     · rw [af (by omega),ab,aN (by omega)];have en:ysAt n=xsAt (j+1):=by
        rw [hsucc];show xsAt j++(d.now.take n).map (·.2)=_;rw [av (by omega)]
       rw [en] at H3 hpk;exact ⟨⟨j+1,a,l,c,rfl,by omega,hpk,H3⟩,by show ((A.dirs.length:Int) - ((j+1:Nat):Int)).toNat<((A.dirs.length:Int) - (j:Int)).toNat; omega⟩
   · rw [af (show ¬ ((j:Int)<(((A.crash ps).dirs.length:Nat):Int)) by omega),ab];have ej:xsAt j=(A.crash ps).idx:=by
      show ((A.crash ps).dirs.take j).flatMap _=(A.crash ps).dirs.flatMap _;rw [av (by omega)]
     rw [ej] at H2;rw [aP];have eC:({ { Bt (A.crash ps).idx with off:=false } with fuse:=none }:AF.FS)=A.crash ps:=by
      show ({ A with dirs:=(A.crash ps).dirs,files:=(bL A ps (A.crash ps).idx).1,off:=false,fuse:=none }:AF.FS)=A.crash ps;rw [← gZ]
      rfl
     refine ct (c':=fi { Bt (A.crash ps).idx with off:=false } q) H2 (by show 3<6; decide) rfl fun h5 H5=>?_;rw [aP];refine ct (c':=fi { { Bt (A.crash ps).idx with off:=false } with fuse:=none } q) H5 (by show 2<6; decide) rfl fun h6 H6=>?_;refine ⟨by trivial,?_⟩;have K:aG (bd m ({ { Bt (A.crash ps).idx with off:=false } with fuse:=none }:AF.FS)::F) h6:=dg (q:=q) hq H6;rw [eC] at K;exact K
end
namespace AF
def FS.act (A:FS) (k:Int) (dir name b:ByteArray) (n:Int) (turn:Nat) (ps:List Int):FS×Nat:=
 if k=0 then A.mkdir dir else if k=1 then A.create dir name else if k=2 then A.append dir name (sb b) else if k=3 then A.sync dir name else if k=4 then A.syncDir dir else
 if k=5 then A.rename dir name b else if k=6 then A.remove dir name else if k=7 then A.setRoom n else if k=8 then A.setFuse n else if k=9 then (A.crash ps,0) else
 if k=10 then A.spoil dir name n turn else if k=11 then A.plant dir name (sb b) else (A,0)
theorem FS.act_cases {P:FS×Nat→Prop} {A:FS} {k n:Int} {dir name b:ByteArray} {turn:Nat} {ps:List Int} (h0:P (A.mkdir dir)) (h1:P (A.create dir name)) (h2:P (A.append dir name (sb b))) (h3:P (A.sync dir name)) (h4:P (A.syncDir dir)) (h5:P (A.rename dir name b)) (h6:P (A.remove dir name)) (h7:P (A.setRoom n)) (h8:P (A.setFuse n)) (h9:P ((A.crash ps,0))) (h10:P (A.spoil dir name n turn)) (h11:P (A.plant dir name (sb b))) (h12:P ((A,0))):P (A.act k dir name b n turn ps):=by
 unfold FS.act
 by_cases k0:k=0
 · rw [an k0]; exact h0
 rw [am k0]
 by_cases k1:k=1
 · rw [an k1]; exact h1
 rw [am k1]
 by_cases k2:k=2
 · rw [an k2]; exact h2
 rw [am k2]
 by_cases k3:k=3
 · rw [an k3]; exact h3
 rw [am k3]
 by_cases k4:k=4
 · rw [an k4]; exact h4
 rw [am k4]
 by_cases k5:k=5
 · rw [an k5]; exact h5
 rw [am k5]
 by_cases k6:k=6
 · rw [an k6]; exact h6
 rw [am k6]
 by_cases k7:k=7
 · rw [an k7]; exact h7
 rw [am k7]
 by_cases k8:k=8
 · rw [an k8]; exact h8
 rw [am k8]
 by_cases k9:k=9
 · rw [an k9]; exact h9
 rw [am k9]
 by_cases k10:k=10
 · rw [an k10]; exact h10
 rw [am k10]
 by_cases k11:k=11
 · rw [an k11]; exact h11
 rw [am k11]
 exact h12
theorem FS.WF.act {A:FS} (W:A.WF) {k n:Int} {dir name b:ByteArray} {turn:Nat} {ps:List Int} (hn:n≤9223372036854775807) (ht:turn<256):(A.act k dir name b n turn ps).1.WF:=
 FS.act_cases (P:=fun r=>r.1.WF) (W.mkdir _) (W.create _ _) (W.append _ _ (gv b)) (W.sync _ _) (W.syncDir _) (W.rename _ _ _) (W.remove _ _) (W.setRoom _) (W.setFuse hn) (W.crash _) (W.spoil _ _ _ ht) (W.plant _ _ (gv b)) W
def dr (A B:FS):Prop:=B.steps≤A.steps+1∧B.files.length≤A.files.length+1
theorem dr.same (A:FS):dr A A:=⟨Nat.le_succ _,Nat.le_succ _⟩
theorem dr.step {A:FS} {g:FS→FS} (h1:(g A.stepOn).steps=A.steps+1) (h2:(g A.stepOn).files.length≤A.files.length+1):dr A (A.step g).1:=by
 unfold FS.step
 split
 · exact dr.same A
 · exact ⟨by rw [h1]; exact ax _,h2⟩
theorem dr.act {A:FS} {k n:Int} {dir name b:ByteArray} {turn:Nat} {ps:List Int}:dr A (A.act k dir name b n turn ps).1:=by
 have S:=dr.same A
 have F0:∀ (i:Nat) (g:cV→cV),(A.stepOn.setFile i g).files.length≤A.files.length+1:=fun i g=>by
  show (A.files.modify i g).length≤_;rw [length_modify];exact Nat.le_succ _
 refine FS.act_cases (P:=fun r=>dr A r.1) ?_ ?_ ?_ ?_ ?_ ?_ ?_ ?_ ?_ ?_ ?_ ?_ ?_
 · unfold FS.mkdir;split
   · exact S
   · split
     · split
       · exact S
       · exact .step rfl (Nat.le_succ _)
     · exact S
 · unfold FS.create;split
   · exact S
   · split
     · exact S
     · split
       · exact S
       · exact .step rfl (by show (A.files++[_]).length≤_; rw [ao]; exact ax _)
 · unfold FS.append;split
   · exact S
   · split
     · exact S
     · split
       · exact S
       · exact .step rfl (F0 _ _)
 · unfold FS.sync;split
   · exact S
   · exact .step rfl (F0 _ _)
 · unfold FS.syncDir;split
   · exact S
   · exact .step rfl (Nat.le_succ _)
 · unfold FS.rename;split
   · exact S
   · split
     · exact S
     · exact .step rfl (Nat.le_succ _)
 · unfold FS.remove;split
   · exact S
   · exact .step rfl (Nat.le_succ _)
 · unfold FS.setRoom;split <;> exact S
 · unfold FS.setFuse;split <;> exact S
 · exact ⟨Nat.le_succ _,by show (cr _ _ _).1.length≤_; rw [ff]; exact Nat.le_succ _⟩
 · unfold FS.spoil;split
   · exact S
   · split
     · exact S
     · split
       · exact S
       · exact ⟨Nat.le_succ _,by show (A.files.modify _ _).length≤_; rw [length_modify]; exact Nat.le_succ _⟩
 · unfold FS.plant;split
   · exact S
   · split
     · exact S
     · split
       · exact S
       · exact ⟨Nat.le_succ _,by show (A.files++[_]).length≤_; rw [ao]; exact ax _⟩
 · exact S
end AF
abbrev tP (k:Int) (dir name b:ByteArray) (n:Int) (turn:Nat) (pa:Option Addr) (pl pc:Nat):Array Value:=#[.int .i64 k,.string dir,.string name,.string b,.int .i64 n,.int .u8 (turn:Int),.slice pa pl pc]
section
variable {f m:Nat} {A:AF.FS} {F:List aF} {h:Heap} {k n:Int} {dir name b:ByteArray} {turn:Nat} {ps:List Int} {pa:Option Addr} {pl pc:Nat}
theorem sr.cons {B:aF} (hp:sr F ps pa pl pc):sr (B::F) ps pa pl pc:=⟨hp.len,hp.cap,fun h' hh=>hp.read h' hh.drop⟩
theorem zQ (W:A.WF) (hs:A.steps<1099511627776) (hd:dir.size<4611686018427387904) (hn:name.size<4611686018427387904) (hb:b.size<4611686018427387904) (ht:turn<256) (hni:n≤9223372036854775807) (hp:sr F ps pa pl pc) (H:aG (bV f A::F) h) :
  aE prog 31 [aM f,.agg (tP k dir name b n turn pa pl pc)] h fun v h'=>v=.int .i64 ((A.act k dir name b n turn ps).2:Int)∧aG (bV f (A.act k dir name b n turn ps).1::F) h':=by
 apply BO.ap
 unfold Gz AF.FS.act
 refine aW H fun b0 h1 H0=>?_
 have H1:=H0.mv 1
 have HB:aG (pt b0 (.cells (tP k dir name b n turn pa pl pc) 66 (0,0))::bV f A::F) h1:=H0
 have done:∀ {B:AF.FS} {h':Heap},aG (bV f B::pt b0 (.cells (tP k dir name b n turn pa pl pc) 66 (0,0))::F) h'→aG (bV f B::F) h':=fun H'=>H'.ordT 2 [0]
 refine bM (x:=k) HB rfl ?_
 by_cases k0:k=0
 · rw [kO k0,ae,an k0];refine bz HB rfl ?_;refine (uc W hs hd H1).mono ?_;rintro v h2 ⟨rfl,H2⟩;rw [aL];exact ⟨rfl,done H2⟩
 rw [iF k0,ab,am k0]
 by_cases k1:k=1
 · rw [kO k1,ae,an k1];refine bz HB rfl (bz HB rfl ?_);refine (pR W hs hd hn H1).mono ?_;rintro v h2 ⟨rfl,H2⟩;rw [aL];exact ⟨rfl,done H2⟩
 rw [iF k1,ab,am k1]
 by_cases k2:k=2
 · rw [kO k2,ae,an k2];refine bz HB rfl ?_;have hbl:=bE b;refine pF (by kernel_rfl) Df (by kernel_rfl) (show b.size≤maxLen by unfold maxLen; omega) HB fun xb xc h2 H2=>?_;rw [aI];refine bz (H2.mv 1) rfl (bz (H2.mv 1) rfl ?_);refine (pQ (bs:=sb b) W hs hd hn (F:=aQ 5 1 (some ⟨xb,0,none⟩) b.size xc ((sb b).map nv)::pt b0 (.cells (tP k dir name b n turn pa pl pc) 66 (0,0))::F) (fun h' hh=>aH hh) hbl hb (H2.mv 2)).mono ?_;rintro v h3 ⟨rfl,H3⟩;rw [aL];refine ⟨fun st hh=>∃ (i:Nat) (ns:List Nat),st=(i:Int)∧i≤b.size∧ns.length=b.size∧B8 ns∧aG (aQ 5 1 (some ⟨xb,0,none⟩) b.size xc (ns.map nv)::bV f (A.append dir name (sb b)).1::pt b0 (.cells (tP k dir name b n turn pa pl pc) 66 (0,0))::F) hh,
    fun st _=>((b.size:Int) - st).toNat,⟨0,sb b,rfl,aw _,hbl,gv b,H3.mv 1⟩,?_⟩
   rintro st h4 ⟨i,ns,rfl,hi,hnl,hn8,H4⟩;by_cases hlt:i<b.size
   · rw [ah (show ((i:Int)<(b.size:Int)) by omega),ae];obtain ⟨x,hx⟩:∃ x,ns[i]? = some x:=⟨_,ai (by omega)⟩
     have hx8:=hn8 x (aj hx);have hget:(ns.map nv)[i]? = some (nv x):=by rw [List.getElem?_map,hx]; rfl
     have hml:(ns.map nv).length=b.size:=by rw [aq,hnl]
     refine bj (aH H4) hml hget fun b1 hb1 hc=>⟨_,hc,?_⟩
     show DI .u8 (.int .u8 (x:Int)) _;rw [aL];refine bj (aH H4) hml hget fun b2 hb2 hc2=>?_;simp only [Option.some.injEq] at hb2;subst hb2;rw [show (255:Int)=((255:Nat):Int) from rfl,De hx8 (by decide),aP];refine cO H4 (by rw [hml]; exact hlt) fun h5 H5=>?_;rw [show (ns.map nv).set i (.int .u8 ((x ^^^ 255:Nat):Int))=(ns.set i (x ^^^ 255)).map nv from (map_set ..).symm] at H5;rw [aN (by omega)];refine ⟨⟨i+1,ns.set i (x ^^^ 255),rfl,by omega,by rw [length_set,hnl],?_,H5⟩,?_⟩
     · intro n hn
       rcases List.mem_or_eq_of_mem_set hn with hn | rfl
       · exact hn8 n hn
       · exact Nat.xor_lt_two_pow (n:=8) hx8 (by decide)
     · show ((b.size:Int) - ((i+1:Nat):Int)).toNat<((b.size:Int) - (i:Int)).toNat;omega
   · rw [af (show ¬ ((i:Int)<(b.size:Int)) by omega),ab];exact ⟨rfl,done H4.drop⟩
 rw [iF k2,ab,am k2]
 by_cases k3:k=3
 · rw [kO k3,ae,an k3];refine bz HB rfl (bz HB rfl ?_);refine (pP W hs hd hn H1).mono ?_;rintro v h2 ⟨rfl,H2⟩;rw [aL];exact ⟨rfl,done H2⟩
 rw [iF k3,ab,am k3]
 by_cases k4:k=4
 · rw [kO k4,ae,an k4];refine bz HB rfl ?_;refine (kB W hs hd H1).mono ?_;rintro v h2 ⟨rfl,H2⟩;rw [aL];exact ⟨rfl,done H2⟩
 rw [iF k4,ab,am k4]
 by_cases k5:k=5
 · rw [kO k5,ae,an k5];refine bz HB rfl (bz HB rfl (bz HB rfl ?_));refine (ub W hs hd hn hb H1).mono ?_;rintro v h2 ⟨rfl,H2⟩;rw [aL];exact ⟨rfl,done H2⟩
 rw [iF k5,ab,am k5]
 by_cases k6:k=6
 · rw [kO k6,ae,an k6];refine bz HB rfl (bz HB rfl ?_);refine (mB W hs hd hn H1).mono ?_;rintro v h2 ⟨rfl,H2⟩;rw [aL];exact ⟨rfl,done H2⟩
 rw [iF k6,ab,am k6]
 by_cases k7:k=7
 · rw [kO k7,ae,an k7];refine bM (x:=n) HB rfl ?_;refine (zH H1).mono ?_;rintro v h2 ⟨rfl,H2⟩;rw [aL];exact ⟨rfl,done H2⟩
 rw [iF k7,ab,am k7]
 by_cases k8:k=8
 · rw [kO k8,ae,an k8];refine bM (x:=n) HB rfl ?_;refine (zG H1).mono ?_;rintro v h2 ⟨rfl,H2⟩;rw [aL];exact ⟨rfl,done H2⟩
 rw [iF k8,ab,am k8]
 by_cases k9:k=9
 · rw [kO k9,ae,an k9];refine bH (a:=pa) (l:=pl) (m:=pc) HB rfl ?_;refine (zF W hp.cons hs H1).mono ?_;rintro v h2 ⟨rfl,H2⟩;rw [aL];exact ⟨rfl,done H2⟩
 rw [iF k9,ab,am k9]
 by_cases k10:k=10
 · rw [kO k10,ae,an k10];refine bz HB rfl (bz HB rfl ?_);refine bM (x:=n) HB rfl ?_;refine bM (x:=(turn:Int)) HB rfl ?_;refine (zE W ht hd hn hni H1).mono ?_;rintro v h2 ⟨rfl,H2⟩;rw [aL];exact ⟨rfl,done H2⟩
 rw [iF k10,ab,am k10]
 by_cases k11:k=11
 · rw [kO k11,ae,an k11];refine bz HB rfl (bz HB rfl (bz HB rfl ?_));refine pF (by kernel_rfl) Df (by kernel_rfl) (show b.size≤maxLen by unfold maxLen; omega) HB fun xb xc h2 H2=>?_;rw [aI];refine (zD (bs:=sb b) W hd hn (gv b) (bE b) (H2.ordT 3 [2,0,1])).mono ?_;rintro v h3 ⟨rfl,H3⟩;rw [aL];exact ⟨rfl,done H3⟩
 rw [iF k11,ab,am k11]
 exact ⟨rfl,done H1⟩
theorem zP (W:A.WF) (hs:A.steps<1099511627776) (hm:A.files.length<1099511627776) (hb:b.size<4611686018427387904) (ht:turn<256) (hp:sr F ps pa pl pc) (H:aG (bd m A::F) h) :
  aE prog 32 [aM m,.agg (tP k dir name b n turn pa pl pc)] h fun v h'=>v=.int .i64 ((A.act k dir name b n turn ps).2:Int)∧aG (bd m (A.act k dir name b n turn ps).1::F) h':=by
 apply BN.ap
 unfold Gy AF.FS.act
 refine aW H fun b0 h1 H0=>?_
 have H1:=H0.mv 1
 have HB:aG (pt b0 (.cells (tP k dir name b n turn pa pl pc) 66 (0,0))::bd m A::F) h1:=H0
 have done:∀ {B:AF.FS} {h':Heap},aG (bd m B::pt b0 (.cells (tP k dir name b n turn pa pl pc) 66 (0,0))::F) h'→aG (bd m B::F) h':=fun H'=>H'.ordT 2 [0]
 refine bM (x:=k) HB rfl ?_
 by_cases k0:k=0
 · rw [kO k0,ae,an k0];refine bz HB rfl ?_;refine (ua W hs H1).mono ?_;rintro v h2 ⟨rfl,H2⟩;rw [aL];exact ⟨rfl,done H2⟩
 rw [iF k0,ab,am k0]
 by_cases k1:k=1
 · rw [kO k1,ae,an k1];refine bz HB rfl (bz HB rfl ?_);refine (pO W hs hm H1).mono ?_;rintro v h2 ⟨rfl,H2⟩;rw [aL];exact ⟨rfl,done H2⟩
 rw [iF k1,ab,am k1]
 by_cases k2:k=2
 · rw [kO k2,ae,an k2];refine bz HB rfl (bz HB rfl (bz HB rfl ?_));refine (pN W hs hb H1).mono ?_;rintro v h2 ⟨rfl,H2⟩;rw [aL];exact ⟨rfl,done H2⟩
 rw [iF k2,ab,am k2]
 by_cases k3:k=3
 · rw [kO k3,ae,an k3];refine bz HB rfl (bz HB rfl ?_);refine (pM W hs H1).mono ?_;rintro v h2 ⟨rfl,H2⟩;rw [aL];exact ⟨rfl,done H2⟩
 rw [iF k3,ab,am k3]
 by_cases k4:k=4
 · rw [kO k4,ae,an k4];refine bz HB rfl ?_;refine (kA W hs H1).mono ?_;rintro v h2 ⟨rfl,H2⟩;rw [aL];exact ⟨rfl,done H2⟩
 rw [iF k4,ab,am k4]
 by_cases k5:k=5
 · rw [kO k5,ae,an k5];refine bz HB rfl (bz HB rfl (bz HB rfl ?_));refine (t7 W hs H1).mono ?_;rintro v h2 ⟨rfl,H2⟩;rw [aL];exact ⟨rfl,done H2⟩
 rw [iF k5,ab,am k5]
 by_cases k6:k=6
 · rw [kO k6,ae,an k6];refine bz HB rfl (bz HB rfl ?_);refine (mA W hs H1).mono ?_;rintro v h2 ⟨rfl,H2⟩;rw [aL];exact ⟨rfl,done H2⟩
 rw [iF k6,ab,am k6]
 by_cases k7:k=7
 · rw [kO k7,ae,an k7];refine bM (x:=n) HB rfl ?_;refine (zC H1).mono ?_;rintro v h2 ⟨rfl,H2⟩;rw [aL];exact ⟨rfl,done H2⟩
 rw [iF k7,ab,am k7]
 by_cases k8:k=8
 · rw [kO k8,ae,an k8];refine bM (x:=n) HB rfl ?_;refine (zB H1).mono ?_;rintro v h2 ⟨rfl,H2⟩;rw [aL];exact ⟨rfl,done H2⟩
 rw [iF k8,ab,am k8]
 by_cases k9:k=9
 · rw [kO k9,ae,an k9];refine bH (a:=pa) (l:=pl) (m:=pc) HB rfl ?_;refine (zA W hp.cons hs H1).mono ?_;rintro v h2 ⟨rfl,H2⟩;exact ⟨rfl,rfl,done H2⟩
 rw [iF k9,ab,am k9]
 by_cases k10:k=10
 · rw [kO k10,ae,an k10];refine bz HB rfl (bz HB rfl ?_);refine bM (x:=n) HB rfl ?_;refine bM (x:=(turn:Int)) HB rfl ?_;refine (zz W ht H1).mono ?_;rintro v h2 ⟨rfl,H2⟩;rw [aL];exact ⟨rfl,done H2⟩
 rw [iF k10,ab,am k10]
 by_cases k11:k=11
 · rw [kO k11,ae,an k11];refine bz HB rfl (bz HB rfl (bz HB rfl ?_));refine (zy W hm H1).mono ?_;rintro v h3 ⟨rfl,H3⟩;rw [aL];exact ⟨rfl,done H3⟩
 rw [iF k11,ab,am k11]
 exact ⟨rfl,done H1⟩
end
set_option maxRecDepth 8000
section
variable {f m:Nat} {A:AF.FS} {F:List aF} {h:Heap}
theorem pV (W:A.WF) (H:aG (bV f A::bd m A::F) h):aE prog 33 [aM f,aM m] h fun v h'=>v=.bool true∧aG (bV f A::bd m A::F) h':=by
 apply BM.ap
 unfold Gx
 have hfew:=W.few
 refine ⟨_,(zx H).mono fun v h' hh=>hh,?_⟩
 rw [aL]
 refine ⟨_,(tZ W (H.mv 1)).mono fun v h' hh=>hh,?_⟩
 rw [aL,A5,af (by simp),ab]
 refine ⟨_,(zw H).mono fun v h' hh=>hh,?_⟩
 rw [aL]
 obtain ⟨q,hq,H1⟩:=bS (H.mv 1)
 simp only [aK]
 refine bM (x:=(A.steps:Int)) H1 rfl ?_
 rw [A5,af (by simp),ab]
 refine ⟨_,(zv H).mono fun v h' hh=>hh,?_⟩
 rw [bO]
 refine dX (v:=.bool A.off) H1 rfl ?_
 rw [bO,show ((!A.off)==A.off)=false by cases A.off <;> rfl,ab]
 refine (zu W (H1.ordT 5 [4,0,1,2,3])).mono ?_
 rintro v h1 ⟨da,dc,rfl,H2⟩
 rw [aI]
 refine bH (a:=q.da) (l:=A.dirs.length) (m:=q.dc) (H2.mv 2) rfl ?_
 rw [A5,af (by simp),ab]
 have H3:aG (bd m A::aQ 9 1 da A.dirs.length dc ((A.dirs.map (·.name)).map Value.string)::bV f A::F) h1:=dg hq (H2.ordT 6 [2,3,4,5,0,1])
 refine ⟨fun st hh=>∃ i:Nat,st=(i:Int)∧i≤A.dirs.length∧aG (bd m A::aQ 9 1 da A.dirs.length dc ((A.dirs.map (·.name)).map Value.string)::bV f A::F) hh,
  fun st _=>((A.dirs.length:Int) - st).toNat,⟨0,rfl,aw _,H3⟩,?_⟩
 rintro st h2 ⟨i,rfl,hi,H4⟩
 by_cases hlt:i<A.dirs.length
 · rw [ah (show ((i:Int)<(A.dirs.length:Int)) by omega),ae];obtain ⟨d,hd⟩:∃ d,A.dirs[i]? = some d:=⟨_,ai hlt⟩
   have hnm:(A.dirs.map (·.name))[i]? = some d.name:=by rw [List.getElem?_map,hd]; rfl
   have hnl:(A.dirs.map (·.name)).length=A.dirs.length:=aq ..;have hds:d.name.size<4611686018427387904:=by
    have:=(W.each d (aj hd)).name;unfold AF.right at this;simp only [ay,decide_eq_true_eq] at this;omega
   refine dM (aH (H4.mv 1)) hnl hnm fun b hc=>fE hc ?_;refine (kz W hds (H4.mv 2)).mono ?_;have mdir:∀ {h':Heap} {G:List aF} {K:ByteArray→Prop},aG (bd m A::G) h'→K d.name→Ld h' ((⟨m,0,none⟩:Addr).add 5) fun v4=>aZ v4 fun x10a x10l x10c=>aO x10a x10l (i:Int) 4 fun a5=>Ld h' (a5.add 0) fun v5=>DS v5 K:=by
    intro h' G K HH hK;obtain ⟨q,hq,HH1⟩:=bS HH;obtain ⟨x,hx,_⟩:=cL hq hd (HH1.mv 3 |>.mv 3);refine bH (a:=q.da) (l:=A.dirs.length) (m:=q.dc) HH1 rfl ?_;exact ce hq hd hx HH1 fun b hc=>fE (hc 0 _ rfl) hK
   have next:∀ hx,aG (bd m A::aQ 9 1 da A.dirs.length dc ((A.dirs.map (·.name)).map Value.string)::bV f A::F) hx→
    (∃ i_1:Nat,wrap .i64 ((i:Int)+1)=(i_1:Int)∧i_1≤A.dirs.length∧aG (bd m A::aQ 9 1 da A.dirs.length dc ((A.dirs.map (·.name)).map Value.string)::bV f A::F) hx)∧((A.dirs.length:Int) - wrap .i64 ((i:Int)+1)).toNat<((A.dirs.length:Int) - (i:Int)).toNat:=by
    intro hx HH;rw [aN (by omega)];exact ⟨⟨i+1,rfl,by omega,HH⟩,by omega⟩
   rintro v h3 (⟨ks,ka,kc,hl,hright,hkl,rfl,H5⟩ | ⟨e,hl,e0,rfl,H5⟩)
   · refine ⟨ka,ks.length,kc,0,rfl,?_⟩;refine mdir (H5.mv 2) ?_;refine (jE W (H5.mv 2)).mono ?_;rintro v h4 (⟨ks2,ka2,kc2,hl2,rfl,H6⟩ | ⟨e,hl2,_⟩)
     · rw [hl] at hl2;cases hl2;refine ⟨ka2,ks.length,kc2,0,rfl,?_⟩;refine dM (aH (H6.mv 4)) hnl hnm fun b hc=>fE hc ?_;refine mdir (H6.mv 1) ?_;rw [dL,ah rfl,aB,ab,show ((0:Int)!=0)=false from rfl,ab,A5,af (by simp),ab];refine ⟨fun st hh=>∃ n:Nat,st=(n:Int)∧n≤ks.length∧aG (aQ 9 1 ka2 ks.length kc2 (ks.map Value.string)::bd m A::aQ 9 1 ka ks.length kc (ks.map Value.string)::bV f A::aQ 9 1 da A.dirs.length dc ((A.dirs.map (·.name)).map Value.string)::F) hh,
        fun st _=>((ks.length:Int) - st).toNat,⟨0,rfl,aw _,H6⟩,?_⟩
       rintro st h5 ⟨n,rfl,hn,H7⟩;by_cases hlt2:n<ks.length
       · rw [ah (show ((n:Int)<(ks.length:Int)) by omega),ae];obtain ⟨k,hk⟩:∃ k,ks[n]? = some k:=⟨_,ai hlt2⟩
         have hks:k.size<4611686018427387904:=by
          have:=hright k (aj hk);unfold AF.right at this;simp only [ay,decide_eq_true_eq] at this;omega
         refine dM (aH (H7.mv 4)) hnl hnm fun b hc=>fE hc ?_;refine dM (aH (H7.mv 2)) rfl hk fun b hc=>fE hc ?_;refine (pL W hds hks (H7.mv 3)).mono ?_;have tail:∀ {x19a:Option Addr} {x19l x19c:Nat} {x20:Int} {h6:Heap} {bs:ByteArray},aG (bV f A::aQ 9 1 ka2 ks.length kc2 (ks.map Value.string)::bd m A::aQ 9 1 ka ks.length kc (ks.map Value.string)::aQ 9 1 da A.dirs.length dc ((A.dirs.map (·.name)).map Value.string)::F) h6→fF h6 x19a x19l bs→yy (A.read d.name k)=.tuple #[.string bs,.int .i64 x20]→
          aO da A.dirs.length (i:Int) 1 fun a11=>Ld h6 a11 fun v11=>DS v11 fun x21=>aO ka2 ks.length (n:Int) 1 fun a12=>Ld h6 a12 fun v12=>DS v12 fun x22=>aE prog 81 [aM m,.string x21,.string x22] h6 fun r12 h_10=>
           ∃ (x23:ByteArray),∃ (x24:Int),r12=.tuple #[.string x23,.int .i64 x24]∧aO ka ks.length (n:Int) 1 fun a13=>Ld h_10 a13 fun v13=>DS v13 fun x25=>aO ka2 ks.length (n:Int) 1 fun a14=>Ld h_10 a14 fun v14=>DS v14 fun x26=>
           (bif !dm x25 x26 then Value.bool false=Value.bool true∧aG (bV f A::bd m A::F) h_10 else
            (bif (x20:Int)!=x24 then Value.bool false=Value.bool true∧aG (bV f A::bd m A::F) h_10 else
             ∃ bs0:ByteArray,fF h_10 x19a x19l bs0∧(bif !dm bs0 x23 then Value.bool false=Value.bool true∧aG (bV f A::bd m A::F) h_10 else
               ((∃ n_1:Nat,wrap .i64 ((n:Int)+1)=(n_1:Int)∧n_1≤ks.length∧aG (aQ 9 1 ka2 ks.length kc2 (ks.map Value.string)::bd m A::aQ 9 1 ka ks.length kc (ks.map Value.string)::bV f A::aQ 9 1 da A.dirs.length dc ((A.dirs.map (·.name)).map Value.string)::F) h_10)∧((ks.length:Int) - wrap .i64 ((n:Int)+1)).toNat<((ks.length:Int) - (n:Int)).toNat)))):=by
          intro x19a x19l x19c x20 h6 bs HH hb hv;refine dM (aH (HH.mv 4)) hnl hnm fun b hc=>fE hc ?_;refine dM (aH (HH.mv 1)) rfl hk fun b hc=>fE hc ?_;refine (pJ W (HH.mv 2)).mono ?_;rintro v h7 ⟨rfl,rfl⟩;refine ⟨bs,x20,hv,?_⟩;refine dM (aH (HH.mv 3)) rfl hk fun b hc=>fE hc ?_;refine dM (aH (HH.mv 1)) rfl hk fun b hc=>fE hc ?_;rw [dL,ah rfl,aB,ab,show (x20 !=x20)=false by rw [bne_self_eq_false],ab];refine ⟨bs,hb,?_⟩;rw [dL,ah rfl,aB,ab,aN (by omega)];exact ⟨⟨n+1,rfl,by omega,HH.ordT 5 [1,2,3,0,4]⟩,by omega⟩
         rintro v h6 (⟨bs,xa,xc,hrd,hb8,hbl,rfl,H8⟩ | ⟨e,hrd,e0,rfl,H8⟩)
         · refine ⟨xa,bs.length,xc,0,rfl,?_⟩;exact tail (x19c:=xc) (bs:=dW bs) H8.drop (fT (aH H8) rfl hb8) (by rw [hrd]; rfl)
         · refine ⟨none,0,0,(e:Int),rfl,?_⟩;exact tail (x19c:=0) (bs:=.empty) H8 rfl (by rw [hrd]; rfl)
       · rw [af (by omega),ab];exact next h5 (H7.ordT 5 [1,4,3])
     · rw [hl] at hl2;cases hl2
   · refine ⟨none,0,0,(e:Int),rfl,?_⟩;refine mdir (H5.mv 1) ?_;refine (jE W (H5.mv 1)).mono ?_;rintro v h4 (⟨ks2,ka2,kc2,hl2,rfl,H6⟩ | ⟨e2,hl2,_,rfl,H6⟩)
     · rw [hl] at hl2;cases hl2
     · rw [hl] at hl2;cases hl2;refine ⟨none,0,0,(e:Int),rfl,?_⟩;refine dM (aH (H6.mv 2)) hnl hnm fun b hc=>fE hc ?_;refine mdir H6 ?_;rw [dL,ah rfl,aB,ab,show ((e:Int)!=(e:Int))=false by rw [bne_self_eq_false],ab,show ((((0:Nat):Int))!=((0:Nat):Int))=false from rfl,ab];refine ⟨fun st hh=>st=0∧aG (bd m A::bV f A::aQ 9 1 da A.dirs.length dc ((A.dirs.map (·.name)).map Value.string)::F) hh,fun _ _=>0,⟨rfl,H6⟩,?_⟩;rintro st h5 ⟨rfl,H7⟩;rw [show decide ((0:Int)<((0:Nat):Int))=false from rfl,ab];exact next h5 (H7.ordT 3 [0,2,1])
 · rw [af (by omega),ab];exact ⟨by trivial,H4.ordT 3 [2,0]⟩
end
end Go.Proofs.YtdpaiiibndnanaaGreatDoor
