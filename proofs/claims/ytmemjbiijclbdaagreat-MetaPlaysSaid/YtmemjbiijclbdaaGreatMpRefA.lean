/- Spoilt and planted files,as plain data. The program's file system: Room,Spoil,Plant. The document's file system in memory: of the same plain data. The document's file system: names,places,entries more and fewer. The document's file system: entries fewer and more,an operation among entries,a pick. The document's file system: a pending operation,done at once. The document's file system: the walk of a pending operation. The document's file system: what is used,read,listed; the plain calls. The document's file system: Read,List,Append,Sync,SyncDir,Create,Rename,Remove. The document's file system: SyncDir,Create,Rename,Remove. The document's file system: Mkdir. The document's file system: Spoil,Plant. The document's file system: Plant. The document's file system: Crash. The document's file system: Crash,the walk. Any call of both file systems. FsPlays: what both show; the law. -/
import Derived.Test.YtmemjbiijclbdaaGreatMpPlA
import Derived.Test.YtmemjbiijclbdaaGreatMpFpA
import Derived.Test.YtmemjbiijclbdaaGreatMpSgH
import Derived.Test.YtmemjbiijclbdaaGreatMpFsE
import Derived.Test.YtmemjbiijclbdaaGreatMpTg
namespace Go.Proofs.YtmemjbiijclbdaaGreat
open Go.Builtin (append_)
open Go.IntKind (wrap)
open Go.Proofs.Tryz (prog)
open List (getD_eq_getElem?_getD length_drop append_assoc take_append_drop map_append getElem?_map map_take map_cons nodup_cons find?_eq_none length_filter_le flatMap_cons getElem?_of_mem flatMap_append append_nil length_modify mem_singleton findIdx?_eq_none_iff all_eq_true map_congr_left zipWith map_map getElem?_zipWith getElem?_set sum_append zipWith_cons_cons nil_append cons_append drop_eq_getElem_cons take_length length_zipWith filter_append length_singleton drop_eq_nil_of_le map_set length_set all_cons zip_eq_zipWith set_set)
namespace AF
set_option linter.unusedVariables false
set_option linter.unusedSimpArgs false
def FS.spoil (f:FS) (dir name:ByteArray) (at_:Int) (turn:Nat):FS×Nat:=match f.named dir [name] with
 | .error e=>(f,e)
 | .ok i=>match of (f.D i).now name with
   | none=>(f,62)
   | some x=>if at_<0∨((f.X x).b.length:Int)≤at_ then (f,2) else (f.setFile x fun y=>{ y with b:=y.b.modify at_.toNat (· ^^^ turn) },0)
def FS.planted (f:FS) (i:Nat) (name:ByteArray) (b:List Nat):FS:=
 FS.setDir { f with files:=f.files++[⟨b,b.length⟩] } i fun d=>{ d with now:=ins name f.files.length d.now,base:=ins name f.files.length d.now,pend:=[] }
def FS.plant (f:FS) (dir name:ByteArray) (b:List Nat):FS×Nat:=match f.named dir [name] with
 | .error e=>(f,e)
 | .ok i=>if 16777216<b.length then (f,67) else if (of (f.D i).now name).isNone∧4096≤(f.D i).now.length then (f,66) else (f.planted i name b,0)
theorem nZ {f:FS} {dir:ByteArray} {ss:List ByteArray} {i:Nat} (h:f.named dir ss=.ok i):right dir=true∧(∀ s∈ss,right s=true)∧∃ d,f.dirs[i]? = some d∧d.name=dir:=by
 unfold FS.named at h
 split at h
 · rename_i hr;rw [aw,all_eq_true] at hr;split at h
   · rename_i j hj;cases h;exact ⟨hr.1,hr.2,qf hj⟩
   · cases h
 · cases h
theorem sO {f:FS} {dir:ByteArray} {ss:List ByteArray} {e:Nat} (h:f.named dir ss=.error e):e≠0:=by
 unfold FS.named at h
 split at h
 · split at h
   · cases h
   · cases h; decide
 · cases h; decide
theorem FS.WF.spoil {f:FS} (h:f.WF) (dir name:ByteArray) (at_:Int) {turn:Nat} (ht:turn<256):(f.spoil dir name at_ turn).1.WF:=by
 unfold FS.spoil
 split
 · exact h
 · split
   · exact h
   · split
     · exact h
     · refine h.setFile fun y hy=>?_;obtain ⟨h1,h2,h3⟩:=h.files y (ai hy);refine ⟨by rw [length_modify]; exact h1,by rw [length_modify]; exact h2,fun n hn=>?_⟩
       rcases ie hn with hn | ⟨d,hd,rfl⟩
       · exact h3 n hn
       · exact Nat.xor_lt_two_pow (n:=8) (h3 d (ai hd)) ht
theorem Ok.ins2 {n:Nat} {l:bG} (h:Ok n l) {a:ByteArray} {f:Nat} (ha:right a=true) (hf:f<n) (hn:f∉l.map (·.2)) (hl:(of l a).isSome=true∨l.length<4096):Ok n (AF.ins a f l):=by
 have hp:=jo (n:=a) (f:=f) h.up
 refine ⟨xG h.up,fun p hm=>?_,?_,?_⟩
 · rcases ay.1 (hp.mem_iff.1 hm) with rfl | hm
   · exact ⟨hf,ha⟩
   · exact h.each p (iA hm)
 · rw [(hp.map (·.2)).nodup_iff];simp only [map_cons,nodup_cons];refine ⟨fun hm=>hn ?_,(h.drop a).once⟩;obtain ⟨p,hp,e⟩:=List.mem_map.1 hm;exact List.mem_map.2 ⟨p,iA hp,e⟩
 · rw [hp.length_eq,ao];have h1:=length_filter_le (fun p:ByteArray×Nat => !decide (p.1=a)) l;have h2:=h.few
   rcases hl with hl | hl
   · have:=yQ hl;omega
   · unfold AF.drop;omega
theorem qK {f:FS} (h:f.WF) {i:Nat} {d:cG} {name:ByteArray} {b:List Nat} (hd:f.dirs[i]? = some d) (hr:right name=true) (h8:B8 b) (hl:b.length≤16777216) (hf:(of d.now name).isSome=true∨d.now.length<4096):(f.planted i name b).WF:=by
 have w:=h.each d (ai hd)
 have hlen:(f.files++[(⟨b,b.length⟩:dy)]).length=f.files.length+1:=by simp
 have hnew:f.files.length∉d.now.map (·.2):=fun hm=>by
  have:=kd w (gH w hm);omega
 have hok:Ok (f.files.length+1) (ins name f.files.length d.now):=(w.ok.grow (Nat.le_succ _)).ins2 hr (Nat.lt_succ_self _) hnew hf
 have sp:∀ x,x∈(ins name f.files.length d.now).map (·.2)→x∈d.speaks∨x=f.files.length:=by
  intro x hx;have hx2:=rp (o:=.create name f.files.length) hx w.ok.up
  rcases hx2 with hx2 | hx2
  · exact .inl (gH w hx2)
  · exact .inr (by simpa [eX] using hx2)
 have lt:∀ e∈f.dirs,∀ x∈e.speaks,x<f.files.length:=fun e he x hx=>kd (h.each e he) hx
 refine ⟨h.room,dO _ _ h.up fun d' hd' e he=>⟨fun k=>k,fun k=>k⟩,fun e he=>?_,dO _ _ h.apart fun d' hd' e he=>⟨fun k x hx hx2=>?_,fun k x hx hx2=>?_⟩,fun x hx=>?_,by show (List.modify _ _ _).length≤64; rw [length_modify]; exact h.few,h.fuse⟩
 · show e.WF (f.files++[(⟨b,b.length⟩:dy)]).length f.steps;rw [hlen]
   rcases ie he with he | ⟨d',hd',rfl⟩
   · exact (h.each e he).grow (Nat.le_succ _) (av _)
   · have hd2:f.dirs[i]? = some d':=hd';rw [hd] at hd2;cases hd2;exact ⟨w.name,rfl,hok,au _⟩
 · have hd2:f.dirs[i]? = some d':=hd';rw [hd] at hd2;cases hd2
   rcases sp x (by simpa [cG.speaks] using hx2) with h1 | h1
   · exact k x hx h1
   · have:=lt e he x hx;omega
 · have hd2:f.dirs[i]? = some d':=hd';rw [hd] at hd2;cases hd2
   rcases sp x (by simpa [cG.speaks] using hx) with h1 | h1
   · exact k x h1 hx2
   · have:=lt e he x hx2;omega
 · rcases List.mem_append.1 hx with hx | hx
   · exact h.files x hx
   · rw [mem_singleton] at hx;subst hx;exact ⟨av _,hl,h8⟩
theorem FS.WF.plant {f:FS} (h:f.WF) (dir name:ByteArray) {b:List Nat} (h8:B8 b):(f.plant dir name b).1.WF:=by
 unfold FS.plant
 cases hn:f.named dir [name] with
 | error e=>exact h
 | ok i=>
   obtain ⟨_,hr,d,hd,_⟩:=nZ hn;dsimp only;rw [jz hd];split
   · exact h
   · split
     · exact h
     · rename_i h1 h2;refine qK h hd (hr name (by simp)) h8 (by omega) ?_
       cases ho:of d.now name with
       | some x=>exact .inl rfl
       | none=>
         right;rw [ho] at h2;simp at h2;omega
end AF
open Go Go.RowKit Go.MapKept
set_option linter.unusedVariables false
set_option linter.unusedSimpArgs false
theorem zi {A:AF.FS} {x:Nat} {g:AF.dy→AF.dy} (hg:∀ y,(g y).b.length=y.b.length):(A.setFile x g).used=A.used:=by
 unfold AF.FS.used
 congr 1
 apply map_congr_left
 intro y hy
 rw [AF.mA]
 split
 · rw [hg]
 · rfl
theorem zv {n s:Nat} {xs ys fbs:List Nat} (hs:su n xs ys) {ds:List AF.cG} {i:Nat} (w:∀ d∈ds,d.WF n s):nu xs fbs ds i=nu ys fbs ds i:=by
 unfold nu rZ
 rw [mc fun d hd fb=>wr hs (w d hd) fb]
section
variable {b:Nat} {A:AF.FS} {q:tz} {F:List aE} {h:Heap} {dir name:ByteArray}
theorem CN {n:Int} (H:aD (co b A::F) h):aC prog 72 [aI b,.int .i64 n] h fun v h'=>v=.int .i64 ((A.setRoom n).2:Int)∧aD (co b (A.setRoom n).1::F) h':=by
 obtain ⟨q,hq,H1⟩:=dl H
 apply E6.ap
 unfold KH AF.FS.setRoom
 rw [show (some (⟨b,0,none⟩:Addr)).isNone=false from rfl,aa]
 by_cases h1:n<0
 · rw [af h1,ab,al (.inl h1)];exact ⟨rfl,H⟩
 · rw [ae h1,aa];by_cases h2:1073741824<n
   · rw [af (show n>1073741824 from h2),ab,al (.inr h2)];exact ⟨rfl,H⟩
   · rw [ae (show ¬ n>1073741824 from h2),aa,ak (by omega)];rw [aY,aV];refine bQ (c':=#[.int .i64 ((n.toNat:Nat):Int),.int .i64 (A.used:Int),.int .i64 (A.steps:Int),.int .i64 (eZ A.fuse),.bool A.off,.map (some q.md)]) H1 (by show 0<6; decide) (by rw [Int.toNat_of_nonneg (by omega)]; rfl) fun h2 H2=>?_;exact ⟨rfl,bu (A:={ A with room:=n.toNat }) q hq H2⟩
theorem CM {at_:Int} {turn:Nat} (W:A.WF) (ht:turn<256) (hd:dir.size<4611686018427387904) (hn:name.size<4611686018427387904) (hat:at_≤9223372036854775807) (H:aD (co b A::F) h) :
  aC prog 73 [aI b,.string dir,.string name,.int .i64 at_,.int .u8 (turn:Int)] h fun v h'=>v=.int .i64 ((A.spoil dir name at_ turn).2:Int)∧aD (co b (A.spoil dir name at_ turn).1::F) h':=by
 obtain ⟨q,hq,H0⟩:=dl H
 apply E5.ap
 unfold KG
 rw [show (some (⟨b,0,none⟩:Addr)).isNone=false from rfl,aa]
 refine aQ H0 fun b0 h1 H1=>?_
 refine (pu (ss:=[name]) H1.drop (rq hq) (Hr H1) rfl (show 1<1000 by omega) hd (fun s hs=>by simp at hs; rw [hs]; exact hn)).mono ?_
 rintro v h2 ⟨rfl,rfl⟩
 have H2:=H1.drop
 rcases rc W hq dir [name] with ⟨i,d,fb,he,hdi,hfi,hfv⟩ | ⟨e,he,hne,hfv⟩
 · rw [hfv];refine ⟨some ⟨fb,0,none⟩,0,rfl,?_⟩;rw [show ((0:Int)!=0)=false from rfl,aa];have w:=W.each d (ai hdi);obtain ⟨nb,bb,a,c,es,hfb,hes,hsz,hlk⟩:=lT (H2.mv 3) hdi hfi w.ok.up;obtain ⟨f,hf,hl⟩:=hlk name;have eA:A.spoil dir name at_ turn=match AF.of d.now name with
    | none=>(A,62)
    | some x=>if at_<0∨((A.X x).b.length:Int)≤at_ then (A,2) else (A.setFile x fun y=>{ y with b:=y.b.modify at_.toNat (· ^^^ turn) },0):=by
    unfold AF.FS.spoil;rw [he];dsimp only;rw [AF.jz hdi] <;> rfl
   rw [eA];simp only [aY,aV];have rd:∀ K:Value→Prop,K (.map (some nb))→Ld h2 ⟨fb,0,none⟩ K:=fun K hK=>⟨_,by rw [bj hfb]; rfl,hK⟩
   refine rd _ ?_;rw [bY];refine ⟨es,hes,f,hf,lg hl ?_⟩
   cases ho:AF.of d.now name with
   | none=>
     show bif (true:Bool) then _ else _
     rw [ab];exact ⟨rfl,bu q hq H2⟩
   | some x=>
     show bif (false:Bool) then _ else _
     rw [aa];by_cases h1:at_<0
     · rw [af h1,ab];simp only [h1,true_or,if_true];exact ⟨rfl,bu q hq H2⟩
     rw [ae h1,aa];have hxf:=(w.ok.each _ (AF.jW ho)).1;obtain ⟨y,xb,hy,hxb,hxd⟩:=yr hq hxf;have hX:=AF.rA hy;have hlo:f.map (·.2)=(AF.of d.now name).map fun x=>aI (q.xbs.getD x 0):=hl;refine rd _ ?_;rw [bY];refine ⟨es,hes,f,hf,lg hlo ?_⟩;rw [ho];show aS (some ⟨q.xbs.getD x 0,0,none⟩) _;rw [aY,hxd];obtain ⟨ya,yc,H3⟩:=lO (H2.mv 2) hy hxb;refine gJ (v:=.slice ya y.b.length yc) H3.get rfl ?_;rw [aF];by_cases h2':((y.b.length:Nat):Int)≤at_
     · rw [af (show at_≥(y.b.length:Int) from h2'),ab];dsimp only;rw [hX,al (.inr h2')];exact ⟨rfl,bu q hq H2⟩
     rw [ae (show ¬ at_≥(y.b.length:Int) from h2'),aa];dsimp only;rw [hX,ak (by rintro (h | h); exact h1 h; exact h2' h)];obtain ⟨k,rfl⟩:∃ k:Nat,at_=(k:Int):=⟨at_.toNat,by omega⟩
     rw [Int.toNat_natCast];refine rd _ ?_;rw [bY];refine ⟨es,hes,f,hf,lg hlo ?_⟩;rw [ho];show aS (some ⟨q.xbs.getD x 0,0,none⟩) _;rw [aY,hxd];refine gJ (v:=.slice ya y.b.length yc) H3.get rfl ?_;rw [aF];have H4:aD (aL 5 1 ya y.b.length yc (y.b.map nv)::pt _ _::_) _:=H3.mv 1;obtain ⟨n,hn⟩:∃ n,y.b[k]? = some n:=⟨_,ah (by omega)⟩
     have hn8:=(W.files y (ai hy)).2.2 n (ai hn);have hget:(y.b.map nv)[k]? = some (nv n):=by rw [getElem?_map,hn]; rfl
     refine cf (aH H4) (an ..) hget fun ba hba hc=>⟨_,hc,_,rfl,?_⟩
     refine cf (aH H4) (an ..) hget fun ba2 hba2 hc2=>?_;rw [GE hn8 ht];rw [hba2] at H4;refine lA H4 (by rw [an]; omega) fun h5 H5=>?_;have eset:(y.b.map nv).set k (.int .u8 ((n ^^^ turn:Nat):Int))=(y.b.modify k (· ^^^ turn)).map nv:=by
      rw [dw (· ^^^ turn) hn,map_set]
      rfl
     rw [eset,← hba2] at H5;have el:(y.b.modify k (· ^^^ turn)).length=y.b.length:=length_modify ..;have H6:aD (pt xb (ri ya (y.b.modify k (· ^^^ turn)).length yc y.safe)::aL 5 1 ya (y.b.modify k (· ^^^ turn)).length yc ((y.b.modify k (· ^^^ turn)).map nv)::rh q.xbs A.files x::cL b A q.md::bF aU q.md q.m::dp q.xbs q.fbs A.dirs::F) h5:=by
      rw [el];exact H5.mv 1
     have H7:=oh (y:=⟨y.b.modify k (· ^^^ turn),y.safe⟩) hy hxb H6;refine ⟨rfl,bu q (ra hq x _) ?_⟩;have e3:A.files.set x ⟨y.b.modify k (· ^^^ turn),y.safe⟩=(A.setFile x fun y=>{ y with b:=y.b.modify k (· ^^^ turn) }).files:=(dw (l:=A.files) (fun y:AF.dy=>{ y with b:=y.b.modify k (· ^^^ turn) }) hy).symm;rw [e3] at H7;unfold cL at H7 ⊢;rw [zi fun y=>length_modify ..];exact H7.ordT 4 [1,2,0,3]
 · rw [hfv];refine ⟨none,(e:Int),rfl,?_⟩;have e0:e≠0:=by omega
   rw [bo e0,ab];unfold AF.FS.spoil;rw [he];exact ⟨rfl,bu q hq H2⟩
theorem qL {i fb nb bb c:Nat} {d:AF.cG} {a ba:Option Addr} {bl bc:Nat} {bs:List Nat} {Q:Value→Heap→Prop} {hh:Heap} (W:A.WF) (W2:(A.planted i name bs).WF) (hq:mT A q) (hdi:A.dirs[i]? = some d) (hfi:q.fbs[i]? = some fb) (hl:bs.length=bl) (hbl:bl≤16777216)
  (H:aD (pt fb (mJ nb bb a d.pend.length c)::cC q.xbs nb d.now::nu q.xbs q.fbs A.dirs i::cL b A q.md::bF aU q.md q.m::cj q.xbs A.files::aL 5 1 ba bl bc (bs.map nv)::F) hh)
  (hQ:∀ h',aD (co b (A.planted i name bs)::F) h'→Q (.int .i64 0) h') :
  aS (some ⟨fb,0,none⟩) fun a8=>
  Ld hh (a8.add 0) fun v6=>DM v6 fun x11=>
  aC prog 131 [.slice ba bl bc] hh fun r9 h_11=>
  aT r9 fun x12a x12l x12c=>
  (aG (some (.pointer (some ⟨fb,0,none⟩))) (.pointer (some ⟨fb,0,none⟩)))∧
  (aS (some ⟨fb,0,none⟩) fun a9=>
  aG (some (.pointer (some a8))) (.pointer (some a9)))∧
  (aG (some (.pointer (some (a8.add 0)))) (.pointer (some (a8.add 0))))∧
  (Ld h_11 (a8.add 0) fun v7=>DM v7 fun x13=>
  aG (some (.map x11)) (.map x13))∧
  (aG (some (.string name)) (.string name))∧
  (aG (some (.slice ba bl bc)) (.slice ba bl bc))∧
  (aG (some (.int .i64 (bl:Int))) (.int .i64 (bl:Int)))∧
  Al h_11 (.cells #[.slice x12a x12l x12c,.int .i64 (bl:Int)] 120) fun b3 h_12=>
  (aG (some (.pointer (some ⟨fb,0,none⟩))) (.pointer (some ⟨fb,0,none⟩)))∧
  (aS (some ⟨fb,0,none⟩) fun a10=>
  aG (some (.pointer (some a8))) (.pointer (some a10)))∧
  (aG (some (.pointer (some (a8.add 0)))) (.pointer (some (a8.add 0))))∧
  (Ld h_12 (a8.add 0) fun v8=>DM v8 fun x14=>
  aG (some (.map x11)) (.map x14))∧
  (aG (some (.string name)) (.string name))∧
  fW prog (Instr.mapUpdate 109 (.map x11) (.string name) (.pointer (some (Addr.mk b3 0 none)))) h_12 fun h_13=>
  aS (some ⟨fb,0,none⟩) fun a11=>
  Ld h_13 (a11.add 0) fun v9=>DM v9 fun x15=>
  aC prog 50 [.map x15] h_13 fun r12 h_14=>
  DM r12 fun x16=>
  aS (some ⟨fb,0,none⟩) fun a12=>
  bz h_14 ((a12.add 1).add 0) (.map x16) fun h_16=>
  aS (some ⟨fb,0,none⟩) fun a13=>
  bz h_16 ((a13.add 2).add 0) (.slice none 0 0) fun h_18=>
  aC prog 53 [.pointer (some ⟨b,0,none⟩)] h_18 fun r15 h_19=>
  r15=.tuple #[]∧
  Q (.int .i64 0) h_19:=by
 simp only [aY,aV]
 have w:=W.each d (ai hdi)
 refine gJ (v:=.map (some nb)) H.get rfl ⟨_,rfl,?_⟩
 refine (tO (by omega) (H.mv 6)).mono ?_
 rintro v h1 ⟨a2,c2,rfl,H1⟩
 rw [aF]
 refine ⟨rfl,rfl,rfl,gJ (v:=.map (some nb)) (H1.mv 2).get rfl ⟨_,rfl,rfl⟩,rfl,rfl,rfl,?_⟩
 refine aQ H1 fun b3 h2 H2=>?_
 refine ⟨rfl,rfl,rfl,gJ (v:=.map (some nb)) (H2.mv 3).get rfl ⟨_,rfl,rfl⟩,rfl,?_⟩
 have hs:=m5 q.xbs b3
 have hxl:q.xbs.length=A.files.length:=hq.2.2
 rw [hxl] at hs
 have hx:(q.xbs++[b3]).getD A.files.length 0=b3:=by
  rw [← hxl,getD_eq_getElem?_getD,List.getElem?_append_right (av _)];simp
 have H3:aD (wm ⟨bs,bs.length⟩ b3::pt fb (mJ nb bb a d.pend.length c)::cC (q.xbs++[b3]) nb d.now::nu (q.xbs++[b3]) q.fbs A.dirs i::cL b A q.md::bF aU q.md q.m::cj q.xbs A.files::F) h2:=by
  have K:=H2.ordT 9 [0,1,3,4,5,6,7,8];rw [nk hs fun p hp=>(w.ok.each p hp).1,zv hs W.each] at K;refine bg.2 ⟨(a2,c2),aD.shut (m:=[pt b3 (.cells #[.slice a2 bs.length c2,.int .i64 ((bs.length:Nat):Int)] 120 (0,0)),aL 5 1 a2 bs.length c2 (bs.map nv)]) ?_⟩;rw [hl];exact K
 have H4:=vU hxl.symm (H3.ordT 7 [6,0,1,2,3,4,5])
 obtain ⟨m2,hp2,H5⟩:=fC (H4.mv 2)
 refine fP (E:=aU) (k:=name) Jk u9 H5 fun h3 H6=>?_
 have hp3:=uH hp2 w.ok.up name A.files.length
 rw [hx] at hp3
 refine gJ (v:=.map (some nb)) (H6.mv 2).get rfl ⟨_,rfl,?_⟩
 refine (rK H6).mono ?_
 rintro v h4 ⟨cb,rfl,H7⟩
 rw [bY]
 refine bQ (b:=fb) (i:=1) (c':=#[.map (some nb),.map (some cb),.slice a d.pend.length c]) (H7.mv 3) (by show 1<3; decide) rfl fun h5 H8=>?_
 refine bQ (b:=fb) (i:=2) (c':=#[.map (some nb),.map (some cb),.slice none 0 0]) H8 (by show 2<3; decide) rfl fun h6 H9=>?_
 have K1:=dv hp3 (H9.mv 1)
 have K2:=dv hp3 (K1.mv 2)
 have K3:=nV (nh (q.xbs++[b3])) 112 K2
 have K4:=nt (d:=⟨d.name,AF.ins name A.files.length d.now,AF.ins name A.files.length d.now,[]⟩) (a:=none) (c:=0) hdi hfi (K3.ordT 8 [3,1,2,0,5,4,6,7])
 have e3:A.dirs.set i ⟨d.name,AF.ins name A.files.length d.now,AF.ins name A.files.length d.now,[]⟩=(A.planted i name bs).dirs:=(dw (l:=A.dirs) (fun d:AF.cG=>{ d with now:=AF.ins name A.files.length d.now,base:=AF.ins name A.files.length d.now,pend:=[] }) hdi).symm
 rw [e3] at K4
 have hq1:mT (A.planted i name bs) ⟨q.md,q.fbs,q.xbs++[b3],q.m⟩:=by
  have hq0:mT { A with files:=A.files++[⟨bs,bs.length⟩] } ⟨q.md,q.fbs,q.xbs++[b3],q.m⟩:=⟨hq.1,hq.2.1,by simp [hq.2.2]⟩
  exact q9 hq0 (kR fun d=>rfl) rfl
 refine (rJ (A:=A.planted i name bs) (q:=⟨q.md,q.fbs,q.xbs++[b3],q.m⟩) (used0:=(A.used:Int)) (room:=(A.room:Int)) (steps:=(A.steps:Int)) (fuse:=eZ A.fuse) (off:=A.off) W2 hq1 (K4.ordT 4 [2,3,1,0])).mono ?_
 rintro v h7 ⟨rfl,K5⟩
 exact ⟨rfl,hQ h7 (bu ⟨q.md,q.fbs,q.xbs++[b3],q.m⟩ hq1 K5)⟩
theorem CL {ba:Option Addr} {bl bc:Nat} {bs:List Nat} (W:A.WF) (hd:dir.size<4611686018427387904) (hn:name.size<4611686018427387904) (h8:B8 bs) (hl:bs.length=bl) (H:aD (co b A::aL 5 1 ba bl bc (bs.map nv)::F) h) :
  aC prog 74 [aI b,.string dir,.string name,.slice ba bl bc] h fun v h'=>v=.int .i64 ((A.plant dir name bs).2:Int)∧aD (co b (A.plant dir name bs).1::F) h':=by
 obtain ⟨q,hq,H0⟩:=dl H
 apply E4.ap
 unfold KF
 rw [show (some (⟨b,0,none⟩:Addr)).isNone=false from rfl,aa]
 refine aQ H0 fun b1 h1 H1=>?_
 refine (pu (ss:=[name]) H1.drop (rq hq) (Hr H1) rfl (show 1<1000 by omega) hd (fun s hs=>by simp at hs; rw [hs]; exact hn)).mono ?_
 rintro v h2 ⟨rfl,rfl⟩
 have H2:=H1.drop
 have same:aD (co b A::F) h2:=bu q hq (H2.ordT 5 [0,1,2,3])
 rcases rc W hq dir [name] with ⟨i,d,fb,he,hdi,hfi,hfv⟩ | ⟨e,he,hne,hfv⟩
 · rw [hfv];refine ⟨some ⟨fb,0,none⟩,0,rfl,?_⟩;rw [show ((0:Int)!=0)=false from rfl,aa];obtain ⟨_,hrn,_⟩:=AF.nZ he;have w:=W.each d (ai hdi);have eA:A.plant dir name bs=if 16777216<bl then (A,67) else if (AF.of d.now name).isNone∧4096≤d.now.length then (A,66) else (A.planted i name bs,0):=by
    unfold AF.FS.plant;rw [he];dsimp only;rw [AF.jz hdi,hl]
   rw [eA];by_cases c1:16777216<bl
   · rw [af (show ((bl:Int)>16777216) by omega),ab,al c1];exact ⟨rfl,same⟩
   rw [ae (show ¬ ((bl:Int)>16777216) by omega),aa,ak c1];obtain ⟨nb,bb,a,c,H3⟩:=jN (H2.mv 3) hdi hfi;obtain ⟨m2,hp2,H4⟩:=fC (H3.mv 1);obtain ⟨es,clock,hm,hes⟩:=fD H4;obtain ⟨f,hf,hlk,_⟩:=hm.find name;have hl2:f.map (·.2)=(AF.of d.now name).map fun x=>aI (q.xbs.getD x 0):=by rw [hlk,xP hp2 w.ok.up]
   have hsz:es.size=d.now.length:=by rw [hm.size,hp2.length_eq,an]
   have HT:=H3.ordT 9 [0,1,4,5,6,7,8];have W2:((AF.of d.now name).isSome=true∨d.now.length<4096)→(A.planted i name bs).WF:=fun hc=>AF.qK W hdi (hrn name (by simp)) h8 (by omega) hc;rw [aY,aV];refine gJ (v:=.map (some nb)) H3.get rfl ⟨_,rfl,?_⟩;refine ⟨es,hes,f,hf,lg hl2 ?_⟩
   cases ho:AF.of d.now name with
   | none=>
     show bif (true:Bool) then _ else _
     rw [ab,aY,aV];refine gJ (v:=.map (some nb)) H3.get rfl ⟨_,rfl,?_⟩;refine ⟨es,hes,?_⟩;rw [hsz];by_cases c2:4096≤d.now.length
     · rw [af (show ((d.now.length:Int)≥4096) by omega),ab,al ⟨rfl,c2⟩];exact ⟨rfl,same⟩
     · rw [ae (show ¬ ((d.now.length:Int)≥4096) by omega),aa,ak (fun hh=>c2 hh.2)];exact qL (Q:=fun v h'=>v=.int .i64 (((A.planted i name bs,0):AF.FS×Nat).2:Int)∧aD (co b ((A.planted i name bs,0):AF.FS×Nat).1::F) h') W (W2 (.inr (by omega))) hq hdi hfi hl (by omega) HT fun h' H'=>⟨rfl,H'⟩
   | some x=>
     show bif (false:Bool) then _ else _
     rw [aa,ak (fun hh=>by cases hh.1)];exact qL (Q:=fun v h'=>v=.int .i64 (((A.planted i name bs,0):AF.FS×Nat).2:Int)∧aD (co b ((A.planted i name bs,0):AF.FS×Nat).1::F) h') W (W2 (.inl (by rw [ho]; rfl))) hq hdi hfi hl (by omega) HT fun h' H'=>⟨rfl,H'⟩
 · rw [hfv];refine ⟨none,(e:Int),rfl,?_⟩;have e0:e≠0:=by omega
   rw [bo e0,ab];unfold AF.FS.plant;rw [he];exact ⟨rfl,same⟩
end
open Go Go.RowKit
def cA (p:ByteArray×Nat):List Value:=[.string p.1,.int .i64 (p.2:Int)]
def oW:AF.Op→List Value
 | .create n f=>[.int .i64 1,.string n,.string .empty,.int .i64 (f:Int)]
 | .rename a b=>[.int .i64 2,.string a,.string b,.int .i64 0]
 | .remove a=>[.int .i64 3,.string a,.string .empty,.int .i64 0]
def lP (x:AF.dy):List Value:=[.string (bT x.b),.int .i64 (x.safe:Int)]
structure g4 where
 na:Option Addr
 nc:Nat
 ba:Option Addr
 bc:Nat
 pa:Option Addr
 pc:Nat
def fN (p:AF.cG×g4):List Value:=[.string p.1.name,.slice p.2.na p.1.now.length p.2.nc,.slice p.2.ba p.1.base.length p.2.bc,.slice p.2.pa p.1.pend.length p.2.pc]
theorem cn (p:ByteArray×Nat):(cA p).length=2:=rfl
theorem ut (o:AF.Op):(oW o).length=4:=by cases o <;> rfl
theorem kW (x:AF.dy):(lP x).length=2:=rfl
theorem cQ (p:AF.cG×g4):(fN p).length=4:=rfl
def dA (d:AF.cG) (q:g4):aE:=cr [kF q.na (d.now.flatMap cA),kF q.ba (d.base.flatMap cA),kF q.pa (d.pend.flatMap oW)]
structure iI where
 fa:Option Addr
 fc:Nat
 da:Option Addr
 dc:Nat
 qs:List g4
def f9 (A:AF.FS) (q:iI):Array Value:=#[.int .i64 (A.room:Int),.int .i64 (A.steps:Int),.int .i64 (eZ A.fuse),.bool A.off,.slice q.fa A.files.length q.fc,.slice q.da A.dirs.length q.dc]
def cT (A:AF.FS) (q:iI):aE:=aL 206 2 q.fa A.files.length q.fc (A.files.flatMap lP)
def eE (A:AF.FS) (q:iI):aE:=aL 158 4 q.da A.dirs.length q.dc ((A.dirs.zip q.qs).flatMap fN)
def cD (A:AF.FS) (q:iI):aE:=cr (zipWith dA A.dirs q.qs)
def bp (m:Nat) (A:AF.FS):aE:=mu fun q:iI=>cr [iJ (q.qs.length=A.dirs.length),pt m (.cells (f9 A q) 124 (0,0)),cT A q,eE A q,cD A q]
section
variable {m:Nat} {A:AF.FS} {F:List aE} {h:Heap}
theorem bS (H:aD (bp m A::F) h):∃ q:iI,q.qs.length=A.dirs.length∧aD (pt m (.cells (f9 A q) 124 (0,0))::cT A q::eE A q::cD A q::F) h:=by
 obtain ⟨q,H2⟩:=bg.1 H
 obtain ⟨hq,H3⟩:=bh.1 H2.open
 exact ⟨q,hq,H3⟩
theorem dH {q:iI} (hq:q.qs.length=A.dirs.length) (H:aD (pt m (.cells (f9 A q) 124 (0,0))::cT A q::eE A q::cD A q::F) h):aD (bp m A::F) h:=
 bg.2 ⟨q,aD.shut (m:=[iJ (q.qs.length=A.dirs.length),pt m (.cells (f9 A q) 124 (0,0)),cT A q,eE A q,cD A q]) (bh.2 ⟨hq,H⟩)⟩
theorem dg {q:iI} {i:Nat} {d:AF.cG} (hq:q.qs.length=A.dirs.length) (hi:A.dirs[i]? = some d) (H:aD (eE A q::cD A q::F) h) :
  ∃ x:g4,q.qs[i]? = some x∧(A.dirs.zip q.qs)[i]? = some (d,x)∧dF h x.na (d.now.flatMap cA)∧dF h x.ba (d.base.flatMap cA)∧dF h x.pa (d.pend.flatMap oW):=by
 have hlt:=(aj.1 hi).1
 obtain ⟨x,hx⟩:∃ x,q.qs[i]? = some x:=⟨_,ah (by omega)⟩
 refine ⟨x,hx,?_,?_⟩
 · rw [List.zip,getElem?_zipWith,hi,hx]
 · have H2:aD (zipWith dA A.dirs q.qs++(eE A q::F)) h:=(H.mv 1).open;have H3:=(H2.focus (i:=i) (A:=dA d x) (by rw [getElem?_zipWith,hi,hx])).open;exact ⟨nN H3,nN (H3.mv 1),nN (H3.mv 2)⟩
theorem iR {q:iI} (hq:q.qs.length=A.dirs.length):(A.dirs.zip q.qs).length=A.dirs.length:=by rw [List.length_zip,hq,Nat.min_self]
theorem Db {room:Nat} (H:aD F h) (hr:room≤1073741824) :
  aC prog 21 [.int .i64 (room:Int)] h fun v h'=>∃ m,v=.tuple #[aI m,.int .i64 0]∧aD (bp m ⟨room,0,none,false,[],[]⟩::F) h':=by
 apply Fb.ap
 unfold KL
 rw [ae (show ¬ ((room:Int)<0) by omega),aa,ae (show ¬ ((room:Int)>1073741824) by omega),aa]
 refine aQ H fun m h1 H1=>⟨m,rfl,?_⟩
 refine dH (q:=⟨none,0,none,0,[]⟩) rfl ?_
 have H2:aD (cD ⟨room,0,none,false,[],[]⟩ ⟨none,0,none,0,[]⟩::pt m (.cells (f9 ⟨room,0,none,false,[],[]⟩ ⟨none,0,none,0,[]⟩) 124 (0,0))::F) h1:=qU H1
 exact (bE 206 2 (bE 158 4 H2)).ordT 4 [3,0,1,2]
theorem kE (W:A.WF) (hs:A.steps<1099511627776) (H:aD (bp m A::F) h) :
  aC prog 133 [aI m] h fun v h'=>(A.fuse=some 0∧v=.int .i64 60∧aD (bp m { A with off:=true }::F) h')∨(A.fuse≠some 0∧v=.int .i64 0∧aD (bp m A.stepOn::F) h'):=by
 apply DT.ap
 unfold GC
 obtain ⟨q,hq,H1⟩:=bS H
 simp only [aY,aV]
 refine gr (x:=eZ A.fuse) H1 rfl ?_
 have shutF:∀ (B:AF.FS) (h':Heap),B.files=A.files→B.dirs=A.dirs→aD (pt m (.cells (f9 B q) 124 (0,0))::cT A q::eE A q::cD A q::F) h'→aD (bp m B::F) h':=by
  intro B h' e1 e2 H';refine dH (q:=q) (by rw [e2]; exact hq) ?_;unfold cT eE cD at H' ⊢;rw [e1,e2];exact H'
 have onC:∀ (k:Int),k=eZ A.stepOn.fuse→(#[.int .i64 (A.room:Int),.int .i64 ((A.steps+1:Nat):Int),.int .i64 k,.bool A.off,.slice q.fa A.files.length q.fc,.slice q.da A.dirs.length q.dc]:Array Value)=f9 A.stepOn q:=fun k e=>by subst e; rfl
 have hcase:A.fuse=none∨A.fuse=some 0∨∃ n,A.fuse=some (n+1):=by
  cases A.fuse with
  | none=>exact .inl rfl
  | some n=>
    cases n with
    | zero=>exact .inr (.inl rfl)
    | succ n=>exact .inr (.inr ⟨n,rfl⟩)
 rcases hcase with hf | hf | ⟨n,hf⟩
 · have e0:eZ A.fuse = -1:=by rw [hf]; rfl
   rw [e0,show ((-1:Int)==0)=false from rfl,aa];refine gr (x:=eZ A.fuse) H1 rfl ?_;rw [e0,ae (show ¬ (-1:Int)>0 by decide),aa];refine gr (x:=(A.steps:Int)) H1 rfl ?_;rw [aK (by omega)];refine bQ (c':=f9 A.stepOn q) H1 (by show 1<6; decide) (onC (eZ A.fuse) (by unfold AF.FS.stepOn; dsimp only; rw [hf]; rfl)) fun h2 H2=>?_;exact .inr ⟨by rw [hf]; simp,by trivial,shutF A.stepOn h2 rfl rfl H2⟩
 · have e0:eZ A.fuse=0:=by rw [hf]; rfl
   rw [e0,show ((0:Int)==0)=true from rfl,ab];refine bQ (c':=f9 { A with off:=true } q) H1 (by show 3<6; decide) rfl fun h2 H2=>?_;exact .inl ⟨hf,by trivial,shutF _ h2 rfl rfl H2⟩
 · have hn:=W.fuse _ hf;have e0:eZ A.fuse=((n+1:Nat):Int):=by rw [hf]; rfl
   rw [e0,show (((n+1:Nat):Int)==0)=false by rw [beq_eq_false_iff_ne]; omega,aa];refine gr (x:=eZ A.fuse) H1 rfl ?_;rw [e0,af (show ((n+1:Nat):Int)>0 by omega),ab];refine gr (x:=eZ A.fuse) H1 rfl ?_;have w:wrap .i64 (eZ A.fuse - 1)=(n:Int):=by
    rw [e0,IntWalk.i64_in _ (by omega)];omega
   rw [w];refine bQ (c':=#[.int .i64 (A.room:Int),.int .i64 (A.steps:Int),.int .i64 (n:Int),.bool A.off,.slice q.fa A.files.length q.fc,.slice q.da A.dirs.length q.dc]) H1 (by show 2<6; decide) rfl fun h2 H2=>?_;refine gr (x:=(A.steps:Int)) H2 rfl ?_;rw [aK (by omega)];refine bQ (c':=f9 A.stepOn q) H2 (by show 1<6; decide) (onC (n:Int) (by unfold AF.FS.stepOn; dsimp only; rw [hf]; rfl)) fun h3 H3=>?_;exact .inr ⟨by rw [hf]; simp,by trivial,shutF A.stepOn h3 rfl rfl H3⟩
def yF (o:Option Nat):Int:=match o with
 | some x=>(x:Int)
 | none => -1
theorem JK {l:AF.bG} {name:ByteArray} {i:Nat} (h0:∀ (j:Nat) (p:ByteArray×Nat),j<i→l[j]? = some p→p.1≠name) {p:ByteArray×Nat} (hp:l[i]? = some p) (hn:p.1=name):AF.of l name=some p.2:=by
 unfold AF.of
 have:l.find? (fun p=>decide (p.1=name))=some p:=by
  rw [List.find?_eq_some_iff_getElem];obtain ⟨hlt,he⟩:=aj.1 hp;refine ⟨af hn,i,hlt,he,fun j hj=>?_⟩;have:=h0 j l[j] hj (ah (by omega));simpa using this
 rw [this]
 rfl
theorem JJ {l:AF.bG} {name:ByteArray} (h0:∀ (j:Nat) (p:ByteArray×Nat),l[j]? = some p→p.1≠name):AF.of l name=none:=by
 unfold AF.of
 have:l.find? (fun p=>decide (p.1=name))=none:=by
  rw [find?_eq_none];intro p hp;obtain ⟨j,hj⟩:=getElem?_of_mem hp;have:=h0 j p hj;simpa using this
 rw [this]
 rfl
theorem i8 {a:Option Addr} {n c:Nat} {l:AF.bG} {name:ByteArray} (hr:dF h a (l.flatMap cA)) (hl:l.length=n) (hm:n<4611686018427387904) :
  aC prog 134 [.slice a n c,.string name] h fun v h'=>v=.int .i64 (yF (AF.of l name))∧h'=h:=by
 apply DR.ap
 unfold GA
 refine ⟨fun st hh=>hh=h∧∃ i:Nat,st=(i:Int)∧i≤n∧∀ (j:Nat) (p:ByteArray×Nat),j<i→l[j]? = some p→p.1≠name,fun st _=>((n:Int) - st).toNat,⟨rfl,0,rfl,au _,fun j p hj=>by omega⟩,?_⟩
 rintro st h1 ⟨rfl,i,rfl,hi,hno⟩
 by_cases hlt:i<n
 · rw [af (show ((i:Int)<(n:Int)) by omega),ab];obtain ⟨p,hp⟩:∃ p,l[i]? = some p:=⟨_,ah (by omega)⟩
   refine fX cn (by decide) hr hl hp fun b hb hc=>gm (hc 0 _ rfl) ?_;rw [eM];by_cases hn:p.1=name
   · rw [af hn,ab];refine fX cn (by decide) hr hl hp fun b hb hc=>DV (hc 1 _ rfl) ?_;rw [JK hno hp hn];exact ⟨rfl,rfl⟩
   · rw [ae hn,aa,aK (by omega)];refine ⟨⟨rfl,i+1,rfl,by omega,fun j p' hj hp'=>?_⟩,by show ((n:Int) - ((i+1:Nat):Int)).toNat<((n:Int) - (i:Int)).toNat; omega⟩;by_cases hji:j=i
     · subst hji;rw [hp] at hp';cases hp';exact hn
     · exact hno j p' (by omega) hp'
 · rw [ae (by omega),aa,JJ fun j p hp=>hno j p (by have:=(aj.1 hp).1; omega) hp];exact ⟨rfl,rfl⟩
end
theorem zk:prog.underlying 155=some (.slice 213):=by kernel_rfl
theorem oK:fS prog 155=true:=by kernel_rfl
theorem pd:jY prog 213 2 24=true:=by kernel_rfl
section
variable {m:Nat} {A:AF.FS} {F:List aE} {h:Heap} {dir name:ByteArray}
theorem ic (p:ByteArray×Nat):∀ u∈cA p,u.oneCell'=true:=by
 intro u hu
 simp [cA] at hu
 rcases hu with rfl | rfl <;> rfl
theorem pm {s:ByteArray}:aC prog 176 [.string s] h fun v h'=>v=.bool (AF.right s)∧h'=h:=by
 apply Dn.ap
 unfold Gu
 by_cases h1:s.size<1
 · rw [af (show ((s.size:Int)<1) by omega),ab];refine ⟨congrArg Value.bool ?_,rfl⟩;unfold AF.right;rw [ae (show ¬ 1≤s.size by omega)]
   rfl
 rw [ae (show ¬ ((s.size:Int)<1) by omega),aa]
 by_cases h2:s.size>32
 · rw [af (show ((s.size:Int)>32) by omega),ab];refine ⟨congrArg Value.bool ?_,rfl⟩;unfold AF.right;rw [ae (show ¬ s.size≤32 by omega),Bool.and_false]
   rfl
 rw [ae (show ¬ ((s.size:Int)>32) by omega),aa]
 have er:AF.right s=(sb s).all fun c=>(decide (97≤c)&&decide (c≤122))||(decide (48≤c)&&decide (c≤57))||decide (c=46):=by
  unfold AF.right;rw [af (show 1≤s.size by omega),af (show s.size≤32 by omega),Bool.and_self,Bool.true_and,sb,nb,List.all_map]
  rfl
 rw [er]
 have hsl:=bd s
 let ok:Nat→Bool:=fun c=>(decide (97≤c)&&decide (c≤122))||(decide (48≤c)&&decide (c≤57))||decide (c=46)
 show aZ _ 0 h
 refine ⟨fun st hh=>hh=h∧∃ i:Nat,st=(i:Int)∧i≤s.size∧∀ c∈(sb s).take i,ok c=true,fun st _=>((s.size:Int) - st).toNat,⟨rfl,0,rfl,au _,by simp⟩,?_⟩
 rintro st h1 ⟨rfl,i,rfl,hi,hok⟩
 by_cases hlt:i<s.size
 · rw [af (show ((i:Int)<(s.size:Int)) by omega),ab];obtain ⟨c,hc⟩:∃ c,(sb s)[i]? = some c:=⟨_,ah (by omega)⟩
   refine ⟨by omega,by omega,?_⟩;rw [iG hc,aK (by omega)];have on:ok c=true→(h1=h1∧∃ i_1:Nat,((i+1:Nat):Int)=(i_1:Int)∧i_1≤s.size∧∀ c∈(sb s).take i_1,ok c=true)∧((s.size:Int) - ((i+1:Nat):Int)).toNat<((s.size:Int) - (i:Int)).toNat:=by
    intro hcok;refine ⟨⟨rfl,i+1,rfl,by omega,fun c' hc'=>?_⟩,by omega⟩;rw [ax,hc] at hc'
    rcases List.mem_append.1 hc' with hc' | hc'
    · exact hok c' hc'
    · have:c'=c:=by simpa using hc'
      rw [this];exact hcok
   have off:ok c=false→(Value.bool false=Value.bool ((sb s).all ok)∧h1=h1):=by
    intro hcok;refine ⟨congrArg Value.bool ?_,rfl⟩
    symm
    rw [List.all_eq_false];exact ⟨c,ai hc,by rw [hcok]; simp⟩
   by_cases a1:97≤c
   · rw [af (show ((c:Int)≥97) by omega),ab];by_cases a2:c≤122
     · rw [af (show ((c:Int)≤122) by omega),ab];exact on (by show ((decide (97≤c)&&decide (c≤122))||(decide (48≤c)&&decide (c≤57))||decide (c=46))=true; rw [af a1,af a2]; rfl)
     · rw [ae (show ¬ ((c:Int)≤122) by omega),aa,af (show ((c:Int)≥48) by omega),ab,ae (show ¬ ((c:Int)≤57) by omega),aa,
        show ((c:Int)==46)=false by rw [beq_eq_false_iff_ne]; omega]
       exact off (by show ((decide (97≤c)&&decide (c≤122))||(decide (48≤c)&&decide (c≤57))||decide (c=46))=false; rw [ae a2,ae (show ¬ c≤57 by omega),ae (show ¬ c=46 by omega)]; simp)
   · rw [ae (show ¬ ((c:Int)≥97) by omega),aa];by_cases a3:48≤c
     · rw [af (show ((c:Int)≥48) by omega),ab];by_cases a4:c≤57
       · rw [af (show ((c:Int)≤57) by omega),ab];exact on (by show ((decide (97≤c)&&decide (c≤122))||(decide (48≤c)&&decide (c≤57))||decide (c=46))=true; rw [af a3,af a4]; simp)
       · rw [ae (show ¬ ((c:Int)≤57) by omega),aa,show ((c:Int)==46)=false by rw [beq_eq_false_iff_ne]; omega];exact off (by show ((decide (97≤c)&&decide (c≤122))||(decide (48≤c)&&decide (c≤57))||decide (c=46))=false; rw [ae a1,ae a4,ae (show ¬ c=46 by omega)]; simp)
     · rw [ae (show ¬ ((c:Int)≥48) by omega),aa];by_cases a5:c=46
       · rw [show ((c:Int)==46)=true by rw [a5]; rfl];exact on (by show ((decide (97≤c)&&decide (c≤122))||(decide (48≤c)&&decide (c≤57))||decide (c=46))=true; rw [af a5]; simp)
       · rw [show ((c:Int)==46)=false by rw [beq_eq_false_iff_ne]; omega];exact off (by show ((decide (97≤c)&&decide (c≤122))||(decide (48≤c)&&decide (c≤57))||decide (c=46))=false; rw [ae a1,ae a3,ae a5]; simp)
 · rw [ae (by omega),aa];have ei:i=s.size:=by omega
   refine ⟨congrArg Value.bool ?_,rfl⟩
   symm
   rw [all_eq_true];rw [ei,← hsl,take_length] at hok;exact hok
theorem Ar {q:iI} (hq:q.qs.length=A.dirs.length) (hm:A.dirs.length<4611686018427387904) (H:aD (pt m (.cells (f9 A q) 124 (0,0))::cT A q::eE A q::cD A q::F) h) :
  aC prog 177 [aI m,.string dir] h fun v h'=>v=.int .i64 (yF (A.at dir))∧h'=h:=by
 apply Dm.ap
 unfold Gt
 simp only [aY]
 have hr:dF h q.da ((A.dirs.zip q.qs).flatMap fN):=aH (H.mv 2)
 refine ⟨fun st hh=>hh=h∧∃ i:Nat,st=(i:Int)∧i≤A.dirs.length∧∀ (j:Nat) (d:AF.cG),j<i→A.dirs[j]? = some d→d.name≠dir,fun st _=>((A.dirs.length:Int) - st).toNat,⟨rfl,0,rfl,au _,fun j p hj=>by omega⟩,?_⟩
 rintro st h1 ⟨rfl,i,rfl,hi,hno⟩
 refine bH (a:=q.da) (l:=A.dirs.length) (m:=q.dc) H rfl ?_
 by_cases hlt:i<A.dirs.length
 · rw [af (show ((i:Int)<(A.dirs.length:Int)) by omega),ab];obtain ⟨d,hd⟩:∃ d,A.dirs[i]? = some d:=⟨_,ah hlt⟩
   obtain ⟨x,hx,hz,_⟩:=dg hq hd (H.mv 3 |>.mv 3);refine bH (a:=q.da) (l:=A.dirs.length) (m:=q.dc) H rfl ?_;refine fX cQ (by decide) hr (iR hq) hz fun b hb hc=>gm (hc 0 _ rfl) ?_;rw [eM];by_cases hn:d.name=dir
   · rw [af hn,ab];have:A.at dir=some i:=by
      unfold AF.FS.at;rw [List.findIdx?_eq_some_iff_getElem];obtain ⟨hil,he⟩:=aj.1 hd;refine ⟨hil,by rw [he]; exact af hn,fun j hj=>?_⟩;have:=hno j A.dirs[j] hj (ah (by omega));simpa using this
     rw [this];exact ⟨rfl,rfl⟩
   · rw [ae hn,aa,aK (by omega)];refine ⟨⟨rfl,i+1,rfl,by omega,fun j d' hj hd'=>?_⟩,by show ((A.dirs.length:Int) - ((i+1:Nat):Int)).toNat<((A.dirs.length:Int) - (i:Int)).toNat; omega⟩;by_cases hji:j=i
     · subst hji;rw [hd] at hd';cases hd';exact hn
     · exact hno j d' (by omega) hd'
 · rw [ae (by omega),aa];have:A.at dir=none:=by
    unfold AF.FS.at;rw [findIdx?_eq_none_iff];intro d hd;obtain ⟨j,hj⟩:=getElem?_of_mem hd;have:=hno j d (by have:=(aj.1 hj).1; omega) hj;simpa using this
   rw [this];exact ⟨rfl,rfl⟩
def BT:Except Nat Nat→Value
 | .ok i=>.tuple #[.int .i64 (i:Int),.int .i64 0]
 | .error e=>.tuple #[.int .i64 (-1),.int .i64 (e:Int)]
theorem pp {a b:ByteArray} (hm:A.dirs.length<4611686018427387904) (H:aD (bp m A::F) h) :
  aC prog 139 [aI m,.string dir,.string a,.string b] h fun v h'=>v=BT (A.named dir [a,b])∧h'=h:=by
 apply DL.ap
 unfold Gx
 refine pm.mono ?_
 rintro v h1 ⟨rfl,rfl⟩
 rw [cd]
 cases r1:AF.right dir with
 | false=>
   refine ⟨?_,rfl⟩;unfold AF.FS.named;rw [r1]
   rfl
 | true=>
   rw [az,aa];refine pm.mono ?_;rintro v h1 ⟨rfl,rfl⟩;rw [cd]
   cases r2:AF.right a with
   | false=>
     refine ⟨?_,rfl⟩;unfold AF.FS.named;rw [r1,all_cons,r2]
     rfl
   | true=>
     rw [az,aa];refine pm.mono ?_;rintro v h1 ⟨rfl,rfl⟩;rw [cd]
     cases r3:AF.right b with
     | false=>
       refine ⟨?_,rfl⟩;unfold AF.FS.named;rw [r1,all_cons,all_cons,r2,r3]
       rfl
     | true=>
       rw [az,aa];obtain ⟨q,hq,H1⟩:=bS H;refine (Ar hq hm H1).mono ?_;rintro v h1 ⟨rfl,rfl⟩;rw [aJ];have e:A.named dir [a,b]=match A.at dir with
        | some i=>.ok i
        | none=>.error 61:=by
        unfold AF.FS.named;rw [r1,all_cons,all_cons,r2,r3]
        rfl
       rw [e]
       cases A.at dir with
       | none=>
         rw [show yF none = -1 from rfl,af (by decide),ab];exact ⟨rfl,rfl⟩
       | some i=>
         rw [show yF (some i)=(i:Int) from rfl,ae (by omega),aa];exact ⟨rfl,rfl⟩
theorem i9 {a b:ByteArray} (hm:A.dirs.length<4611686018427387904) (H:aD (bp m A::F) h) :
  aC prog 132 [aI m,.string dir,.string a,.string b] h fun v h'=>v=BT (A.ready dir [a,b])∧h'=h:=by
 apply DU.ap
 unfold GD
 obtain ⟨q,hq,H1⟩:=bS H
 simp only [aY]
 refine gA (v:=.bool A.off) H1 rfl ?_
 rw [cd]
 unfold AF.FS.ready
 cases A.off with
 | true=>exact ⟨rfl,by trivial⟩
 | false=>
   rw [aa];refine (pp hm H).mono ?_;rintro v h1 ⟨rfl,rfl⟩
   cases A.named dir [a,b] with
   | ok i=>exact ⟨_,_,rfl,rfl,rfl⟩
   | error e=>exact ⟨_,_,rfl,rfl,rfl⟩
theorem xB:A.named dir [dir,dir]=A.named dir []:=by
 unfold AF.FS.named
 rw [all_cons,all_cons]
 cases AF.right dir <;> rfl
theorem m7:A.ready dir [dir,dir]=A.ready dir []:=by unfold AF.FS.ready; rw [xB]
theorem oY:A.named dir [name,name]=A.named dir [name]:=by
 unfold AF.FS.named
 rw [all_cons,all_cons]
 cases AF.right dir <;> cases AF.right name <;> rfl
theorem sC:A.ready dir [name,name]=A.ready dir [name]:=by unfold AF.FS.ready; rw [oY]
def Hg:Except Nat (Nat×Nat)→Value
 | .ok (i,x)=>.tuple #[.int .i64 (i:Int),.int .i64 (x:Int),.int .i64 0]
 | .error e=>.tuple #[.int .i64 (-1),.int .i64 (-1),.int .i64 (e:Int)]
theorem hZ {ss:List ByteArray} {e:Nat} (h:A.ready dir ss=.error e):e≠0:=by
 unfold AF.FS.ready AF.FS.named at h
 split at h
 · cases h; decide
 · split at h
   · split at h
     · cases h
     · cases h; decide
   · cases h; decide
theorem mC (W:A.WF) (H:aD (bp m A::F) h):aC prog 136 [aI m,.string dir,.string name] h fun v h'=>v=Hg (A.entry dir name)∧h'=h:=by
 apply DO.ap
 unfold Gy
 have hfew:=W.few
 refine (i9 (by omega) H).mono ?_
 rintro v h1 ⟨rfl,rfl⟩
 rw [sC]
 unfold AF.FS.entry
 cases hr:A.ready dir [name] with
 | error e=>
   have e0:=hZ hr;refine ⟨_,_,rfl,?_⟩;rw [bo e0,ab];exact ⟨rfl,rfl⟩
 | ok i=>
   obtain ⟨_,_,_,_,d,hd,hdn⟩:=AF.dD hr;have hD:=AF.jz hd;refine ⟨_,_,rfl,?_⟩;rw [show ((0:Int)!=0)=false from rfl,aa];obtain ⟨q,hq,H1⟩:=bS H;obtain ⟨x,hx,hz,hn,_,_⟩:=dg hq hd (H1.mv 3 |>.mv 3);simp only [aY];refine bH (a:=q.da) (l:=A.dirs.length) (m:=q.dc) H1 rfl ?_;refine fX cQ (by decide) (aH (H1.mv 2)) (iR hq) hz fun b hb hc=>rR (hc 1 _ rfl) ?_;have hnl:=(W.each d (ai hd)).ok.few;refine (i8 hn rfl (by omega)).mono ?_;rintro v h2 ⟨rfl,rfl⟩;rw [aJ,hD]
   cases AF.of d.now name with
   | none=>
     rw [show yF none = -1 from rfl,af (by decide),ab];exact ⟨rfl,rfl⟩
   | some x=>
     rw [show yF (some x)=(x:Int) from rfl,ae (by omega),aa];exact ⟨rfl,rfl⟩
end
section
variable {F:List aE} {h:Heap} {name:ByteArray}
def oy (l:AF.bG) (F:List aE) (v:Value) (h':Heap):Prop:=∃ (a:Option Addr) (c:Nat),v=.slice a l.length c∧aD (aL 213 2 a l.length c (l.flatMap cA)::F) h'
theorem tB {a:Option Addr} {n c:Nat} {l:AF.bG} (hr:∀ h',aD F h'→dF h' a (l.flatMap cA)) (hl:l.length=n) (hm:n≤100000) (H:aD F h) :
  aC prog 175 [.slice a n c,.string name] h (oy (AF.drop l name) F):=by
 apply Do.ap
 unfold Gv
 refine ⟨fun st hh=>∃ (i:Nat) (oa:Option Addr) (oc:Nat),st=(⟨oa,(AF.drop (l.take i) name).length,oc⟩,(i:Int))∧i≤n∧aD (aL 213 2 oa (AF.drop (l.take i) name).length oc ((AF.drop (l.take i) name).flatMap cA)::F) hh,
  fun st _=>((n:Int) - st.2).toNat,⟨0,none,0,rfl,au _,bE 213 2 H⟩,?_⟩
 rintro st h1 ⟨i,oa,oc,rfl,hi,H1⟩
 dsimp only
 by_cases hlt:i<n
 · rw [af (show ((i:Int)<(n:Int)) by omega),ab];obtain ⟨p,hp⟩:∃ p,l[i]? = some p:=⟨_,ah (by omega)⟩
   have ht:AF.drop (l.take (i+1)) name=AF.drop (l.take i) name++(if p.1=name then [] else [p]):=by
    unfold AF.drop;rw [ax,hp,filter_append];congr 1;by_cases e:p.1=name
    · rw [al e]; simp [e]
    · rw [ak e]; simp [e]
   refine fX cn (by decide) (hr h1 H1.drop) hl hp fun b hb hc=>gm (hc 0 _ rfl) ?_;rw [eM];have wi:wrap .i64 ((i:Int)+1)=((i+1:Nat):Int):=aK (by omega);by_cases e:p.1=name
   · rw [af e,az,aa,wi];rw [al e,append_nil] at ht;exact ⟨⟨i+1,oa,oc,by rw [ht],by omega,by rw [ht]; exact H1⟩,by show ((n:Int) - ((i+1:Nat):Int)).toNat<((n:Int) - (i:Int)).toNat; omega⟩
   · rw [ae e,aA,ab,wi];rw [ak e] at ht;refine fX cn (by decide) (hr h1 H1.drop) hl hp fun b hb hc=>⟨_,hc 0 _ rfl,_,hc 1 _ rfl,_,_,rfl,?_⟩
     have hdl:(AF.drop (l.take i) name).length≤i:=by
      refine Nat.le_trans (length_filter_le _ _) ?_;rw [aq];omega
     refine iL (f:=cA) (x:=p) zk oK pd cn (ic p) rfl rfl (by omega) H1 fun a' c' h2 H2=>?_;refine ⟨⟨i+1,a',c',by rw [ht,am]; rfl,by omega,?_⟩,by show ((n:Int) - ((i+1:Nat):Int)).toNat<((n:Int) - (i:Int)).toNat; omega⟩;rw [ht,am];exact H2
 · rw [ae (by omega),aa];have ei:l.take i=l:=ar (by omega);rw [ei] at H1 ⊢;exact ⟨oa,oc,rfl,H1⟩
end
namespace AF
theorem vZ {n:ByteArray} {f:Nat} {l2:bG}:∀ {l1:bG},(∀ p∈l1,jn p.1 n=true)→ins n f (l1++l2)=l1++ins n f l2
 | [],_=>rfl
 | p::l,h=>by
   have h1:=h p (by simp);have h2:p.1≠n:=fun e=>by rw [e] at h1; exact cX _ h1
   have h3:¬ jn n p.1=true:=fun e=>cX _ (gL e h1);rw [cons_append,ins,ak h2,ak h3,vZ fun q hq=>h q (by simp [hq])]
   rfl
end AF
section
variable {F:List aE} {h:Heap} {name:ByteArray}
theorem po {a:Option Addr} {n c f:Nat} {l:AF.bG} (U:AF.Up l) (hr:∀ h',aD F h'→dF h' a (l.flatMap cA)) (hl:l.length=n) (hm:n≤100000) (H:aD F h) :
  aC prog 140 [.slice a n c,.string name,.int .i64 (f:Int)] h (oy (AF.ins name f l) F):=by
 apply DK.ap
 unfold Gw
 refine ⟨fun st hh=>∃ (i:Nat) (oa:Option Addr) (oc:Nat) (out:AF.bG) (dn:Bool),st=(⟨oa,out.length,oc⟩,dn,(i:Int))∧i≤n∧out.length≤i+1∧((dn=false∧(∀ p∈l.take i,AF.jn p.1 name=true)∧out=l.take i)∨(dn=true∧out++l.drop i=AF.ins name f l∧∀ p∈l.drop i,p.1≠name))∧
   aD (aL 213 2 oa out.length oc (out.flatMap cA)::F) hh,
  fun st _=>((n:Int) - st.2.2).toNat,⟨0,none,0,[],false,rfl,au _,au _,.inl ⟨rfl,by simp,rfl⟩,bE 213 2 H⟩,?_⟩
 rintro st h1 ⟨i,oa,oc,out,dn,rfl,hi,hol,hcase,H1⟩
 dsimp only
 by_cases hlt:i<n
 · rw [af (show ((i:Int)<(n:Int)) by omega),ab];obtain ⟨p,hp⟩:∃ p,l[i]? = some p:=⟨_,ah (by omega)⟩
   have hdrop:l.drop i=p::l.drop (i+1):=by
    have h5:=(aj.1 hp)
    rw [drop_eq_getElem_cons h5.1,h5.2]
   have htk:l.take (i+1)=l.take i++[p]:=by rw [ax,hp]; rfl
   have wi:wrap .i64 ((i:Int)+1)=((i+1:Nat):Int):=aK (by omega);have htl:(l.take i).length=i:=by rw [aq]; omega
   have hmeas:((n:Int) - ((i+1:Nat):Int)).toNat<((n:Int) - (i:Int)).toNat:=by omega
   have hU:∀ q∈l.drop (i+1),AF.jn p.1 q.1=true:=by
    have:=List.Pairwise.sublist (List.drop_sublist i l) U;rw [hdrop] at this;exact (List.pairwise_cons.1 this).1
   rcases hcase with ⟨rfl,hall,rfl⟩ | ⟨rfl,hins,hne⟩
   · rw [aA,ab];refine fX cn (by decide) (hr h1 H1.drop) hl hp fun b hb hc=>gm (hc 0 _ rfl) ?_;rw [AF.nJ]
     cases hle:AF.jn p.1 name with
     | true=>
       rw [az,aa];refine fX cn (by decide) (hr h1 H1.drop) hl hp fun b hb hc=>gm (hc 0 _ rfl) ?_;have hpn:p.1≠name:=fun e=>by rw [e] at hle; exact AF.cX _ hle
       rw [eM,ae hpn,aA,ab,wi];refine fX cn (by decide) (hr h1 H1.drop) hl hp fun b hb hc=>⟨_,hc 0 _ rfl,_,hc 1 _ rfl,_,_,rfl,?_⟩
       refine iL (f:=cA) (x:=p) zk oK pd cn (ic p) rfl rfl (by omega) H1 fun a' c' h2 H2=>?_;refine ⟨⟨i+1,a',c',l.take (i+1),false,by rw [htk,am]; rfl,by omega,by rw [htk,am,length_singleton]; omega,.inl ⟨rfl,fun q hq=>?_,rfl⟩,by rw [htk,am]; exact H2⟩,hmeas⟩;rw [htk] at hq
       rcases List.mem_append.1 hq with hq | hq
       · exact hall q hq
       · rw [mem_singleton] at hq;rw [hq];exact hle
     | false=>
       rw [aA,ab];have hge:∀ q∈l.drop (i+1),q.1≠name:=by
        intro q hq e;have:=hU q hq;rw [e] at this;rw [this] at hle;cases hle
       have hin:AF.ins name f l=l.take i++((name,f)::((if p.1=name then [] else [p])++l.drop (i+1))):=by
        have e1:AF.ins name f l=AF.ins name f (l.take i++l.drop i):=by rw [take_append_drop]
        rw [e1,AF.vZ hall,hdrop,AF.ins];by_cases e:p.1=name
        · rw [al e,al e]; rfl
        · rw [ak e,ak e,al (AF.jE e (by rw [hle]; simp))]; rfl
       refine iL (f:=cA) (x:=(name,f)) zk oK pd cn (ic _) rfl rfl (by omega) H1 fun a' c' h2 H2=>?_;refine fX cn (by decide) (hr h2 H2.drop) hl hp fun b hb hc=>gm (hc 0 _ rfl) ?_;rw [eM];by_cases e:p.1=name
       · rw [af e,az,aa,wi];rw [al e,nil_append] at hin;refine ⟨⟨i+1,a',c',l.take i++[(name,f)],true,by rw [am]; rfl,by omega,by rw [am,length_singleton]; omega,.inr ⟨rfl,by rw [hin,append_assoc]; rfl,hge⟩,by rw [am]; exact H2⟩,hmeas⟩
       · rw [ae e,aA,ab,wi];rw [ak e] at hin;refine fX cn (by decide) (hr h2 H2.drop) hl hp fun b hb hc=>⟨_,hc 0 _ rfl,_,hc 1 _ rfl,_,_,rfl,?_⟩
         refine iL (f:=cA) (x:=p) zk oK pd cn (ic p) rfl (by rw [am]; rfl) (by omega) H2 fun a2 c2 h3 H3=>?_;refine ⟨⟨i+1,a2,c2,l.take i++[(name,f)]++[p],true,by rw [am,am]; rfl,by omega,by rw [am,am,length_singleton,length_singleton]; omega,.inr ⟨rfl,by rw [hin,append_assoc,append_assoc]; rfl,hge⟩,by rw [am,am]; exact H3⟩,hmeas⟩
   · rw [az,aa];have hpn:p.1≠name:=hne p (by rw [hdrop]; simp);refine fX cn (by decide) (hr h1 H1.drop) hl hp fun b hb hc=>gm (hc 0 _ rfl) ?_;rw [eM,ae hpn,aA,ab,wi];refine fX cn (by decide) (hr h1 H1.drop) hl hp fun b hb hc=>⟨_,hc 0 _ rfl,_,hc 1 _ rfl,_,_,rfl,?_⟩
     refine iL (f:=cA) (x:=p) zk oK pd cn (ic p) rfl rfl (by omega) H1 fun a' c' h2 H2=>?_;refine ⟨⟨i+1,a',c',out++[p],true,by rw [am]; rfl,by omega,by rw [am,length_singleton]; omega,.inr ⟨rfl,by rw [← hins,hdrop,append_assoc]; rfl,fun q hq=>hne q (by rw [hdrop]; simp [hq])⟩,by rw [am]; exact H2⟩,hmeas⟩
 · rw [ae (by omega),aa]
   rcases hcase with ⟨rfl,hall,rfl⟩ | ⟨rfl,hins,hne⟩
   · rw [aA,ab];have et:l.take i=l:=ar (by omega);rw [et] at hall H1 hol ⊢;have hin:AF.ins name f l=l++[(name,f)]:=AF.yJ hall;refine iL (f:=cA) (x:=(name,f)) zk oK pd cn (ic _) rfl rfl (by omega) H1 fun a' c' h2 H2=>?_;refine ⟨a',c',by rw [hin,am]; rfl,?_⟩;rw [hin,am];exact H2
   · rw [az,aa];rw [drop_eq_nil_of_le (by omega),append_nil] at hins;subst hins;exact ⟨oa,oc,rfl,H1⟩
def BO (l:AF.bG):AF.Op→Prop
 | .rename a b=>(AF.of l a).isSome=true
 | _=>True
theorem tM {a:Option Addr} {n c:Nat} {l:AF.bG} {o:AF.Op} (U:AF.Up l) (hf:BO l o) (hr:∀ h',aD F h'→dF h' a (l.flatMap cA)) (hl:l.length=n) (hm:n≤100000) (H:aD F h) :
  aC prog 138 [.slice a n c,.agg (oW o).toArray] h (oy (AF.does l o) F):=by
 have fin:∀ {l':AF.bG} {G:List aE} {K:Value→Heap→Prop} {v:Value} {h':Heap},oy l' G v h'→(∀ (a':Option Addr) (c':Nat),v=.slice a' l'.length c'→aD (aL 213 2 a' l'.length c' (l'.flatMap cA)::G) h'→K v h')→K v h':=by
  rintro l' G K v h' ⟨a',c',hv,H'⟩ hK;exact hK a' c' hv H'
 cases o with
 | create nm f=>
   refine rP (o0:=1) (o1:=nm) (o2:=.empty) (o3:=(f:Int)) ?_;unfold w8;refine aQ H fun b0 h1 H1=>?_;refine gr (x:=(1:Int)) H1 rfl ?_;rw [show ((1:Int)==1)=true from rfl,ab];refine bI H1 rfl ?_;refine gr (x:=(f:Int)) H1 rfl ?_;refine (po U (fun h' hh=>hr h' hh.drop) hl hm H1).mono ?_;rintro v h2 ⟨a',c',rfl,H2⟩;rw [aF];exact ⟨a',c',rfl,(H2.mv 1).drop⟩
 | rename x y=>
   refine rP (o0:=2) (o1:=x) (o2:=y) (o3:=0) ?_;unfold w8;refine aQ H fun b0 h1 H1=>?_;refine gr (x:=(2:Int)) H1 rfl ?_;rw [show ((2:Int)==1)=false from rfl,aa,show ((2:Int)==2)=true from rfl,ab];refine bI H1 rfl ?_;refine (i8 (hr _ H1.drop) hl (by omega)).mono ?_;rintro v h2 ⟨rfl,rfl⟩;rw [aJ];refine bI H1 rfl ?_;refine bI H1 rfl ?_;refine (tB (fun h' hh=>hr h' hh.drop) hl hm H1).mono ?_;rintro v h3 ⟨a',c',rfl,H3⟩;rw [aF];refine ⟨rfl,bI (H3.mv 1) rfl rfl,rfl,?_⟩;have hdl:(AF.drop l x).length≤100000:=by
    have:=length_filter_le (fun p:ByteArray×Nat => !decide (p.1=x)) l;unfold AF.drop;omega
   cases ho:AF.of l x with
   | none=>
     have:(AF.of l x).isSome=true:=hf;rw [ho] at this;cases this
   | some k=>
     refine (po (f:=k) (AF.Up.drop U x) (fun h' hh=>aH hh) rfl hdl H3).mono ?_;rintro v h4 ⟨a2,c2,rfl,H4⟩;rw [aF];have e:AF.does l (.rename x y)=AF.ins y k (AF.drop l x):=by
      show (match AF.of l x with
       | some f=>AF.ins y f (AF.drop l x)
       | none=>AF.drop l x)=_
      rw [ho]
     rw [e];exact ⟨a2,c2,rfl,H4.ordT 3 [0]⟩
 | remove x=>
   refine rP (o0:=3) (o1:=x) (o2:=.empty) (o3:=0) ?_;unfold w8;refine aQ H fun b0 h1 H1=>?_;refine gr (x:=(3:Int)) H1 rfl ?_;rw [show ((3:Int)==1)=false from rfl,aa,show ((3:Int)==2)=false from rfl,aa];refine bI H1 rfl ?_;refine (tB (fun h' hh=>hr h' hh.drop) hl hm H1).mono ?_;rintro v h3 ⟨a',c',rfl,H3⟩;rw [aF];exact ⟨a',c',rfl,(H3.mv 1).drop⟩
end
theorem Jz:prog.underlying 156=some (.slice 204):=by kernel_rfl
theorem Bp:fS prog 156=true:=by kernel_rfl
theorem B3:jY prog 204 4 48=true:=by kernel_rfl
theorem vP (o:AF.Op):∀ u∈oW o,u.oneCell'=true:=by
 intro u hu
 cases o <;> (simp [oW] at hu; rcases hu with rfl | rfl | rfl | rfl <;> rfl)
theorem zC (l:List AF.Op):∀ u∈l.flatMap oW,u.oneCell'=true:=by
 intro u hu
 obtain ⟨o,_,ho⟩:=List.mem_flatMap.1 hu
 exact vP o u ho
theorem qV {α β:Type} {E:α→β→aE} {xs:List α} {ys:List β} {F:List aE} {h:Heap} {i:Nat} {x:α} {y:β} (hi:i<xs.length) (hj:i<ys.length) (H:aD (E x y::rZ E xs ys i::F) h):aD (cr (zipWith E (xs.set i x) (ys.set i y))::F) h:=by
 have e:(zipWith E xs ys).set i (E x y)=zipWith E (xs.set i x) (ys.set i y):=by
  apply List.ext_getElem?;intro j;rw [getElem?_set];simp only [getElem?_zipWith,getElem?_set];by_cases hij:i=j
  · subst hij;rw [al rfl,al rfl,al rfl,al hi,al hj,al (by rw [length_zipWith]; omega)]
  · rw [ak hij,ak hij,ak hij]
 have H2:aD (E x y::((zipWith E xs ys).eraseIdx i++F)) h:=(H.mv 1).open |> fun hh=>by
  have h3:aD ((zipWith E xs ys).eraseIdx i++E x y::F) h:=hh;have h4:=(h3.shut.mv 1)
  have h5:aD (E x y::cr ((zipWith E xs ys).eraseIdx i)::F) h:=h4;obtain ⟨r,hr,hs⟩:=h5;exact ⟨r,fI (fun _ h=>h) (fun _ h=>d9.2 h) hr,hs⟩
 have H3:=H2.unfocus (by rw [length_zipWith]; omega)
 rw [e] at H3
 exact H3.shut
theorem yq {α β:Type} (xs:List α) (ys:List β) (i:Nat) (x:α) (y:β):(xs.zip ys).set i (x,y)=(xs.set i x).zip (ys.set i y):=by
 apply List.ext_getElem?
 intro j
 rw [getElem?_set]
 simp only [zip_eq_zipWith,getElem?_zipWith,getElem?_set]
 by_cases hij:i=j
 · subst hij;rw [al rfl,al rfl,al rfl];by_cases h1:i<xs.length
   · by_cases h2:i<ys.length
     · rw [al h1,al h2,al (by rw [length_zipWith]; omega)]
     · rw [al h1,ak h2,ak (by rw [length_zipWith]; omega)]
   · rw [ak h1,ak (by rw [length_zipWith]; omega)]
 · rw [ak hij,ak hij,ak hij]
abbrev gD (m:Nat) (A:AF.FS) (q:iI) (F:List aE) (h:Heap):Prop:=aD (pt m (.cells (f9 A q) 124 (0,0))::cT A q::eE A q::cD A q::F) h
section
variable {m i:Nat} {A:AF.FS} {q:iI} {d d':AF.cG} {x x':g4} {F:List aE} {h:Heap}
theorem qY {G:aE} (hd:A.dirs[i]? = some d) (hx:q.qs[i]? = some x) (hP:∀ F',aD (dA d x::G::F') h→aD (dA d' x'::F') h) (H:aD (cD A q::G::F) h) :
  aD (cr (zipWith dA (A.dirs.set i d') (q.qs.set i x'))::F) h:=by
 have H2:=iB H hd hx
 have H3:=hP _ (H2.ordT 3 [0,2,1])
 exact qV (aj.1 hd).1 (aj.1 hx).1 H3
theorem lv {j:Nat} {v:Value} {K:Heap→Prop} (hq:q.qs.length=A.dirs.length) (hd:A.dirs[i]? = some d) (hx:q.qs[i]? = some x) (hj:j<4) (hc:(fN (d,x)).set j v=fN (d',x'))
  (H:aD (pt m (.cells (f9 A q) 124 (0,0))::cT A q::eE A q::cr (zipWith dA (A.dirs.set i d') (q.qs.set i x'))::F) h) (hK:∀ h',gD m { A with dirs:=A.dirs.set i d' } { q with qs:=q.qs.set i x' } F h'→K h') :
  aR q.da A.dirs.length (i:Int) 4 fun a=>bz h ((a.add j).add 0) v K:=by
 have hz:(A.dirs.zip q.qs)[i]? = some (d,x):=by rw [zip_eq_zipWith,getElem?_zipWith,hd,hx]
 refine fX cQ (by decide) (aH (H.mv 2)) (iR hq) hz fun b hb _=>?_
 have H2:=H.mv 2
 unfold eE at H2
 rw [hb] at H2
 refine qP (d',x') cQ H2 hz hj hc fun h' H'=>hK h' ?_
 rw [yq,← hb] at H'
 have H3:=H'.ordT 3 [1,2,0]
 unfold gD cT eE cD f9 at *
 dsimp only at *
 rw [length_set]
 exact H3
end
theorem GT (o:AF.Op):∃ (o0:Int) (o1 o2:ByteArray) (o3:Int),oW o=[.int .i64 o0,.string o1,.string o2,.int .i64 o3]:=by cases o <;> exact ⟨_,_,_,_,rfl⟩
section
variable {m i:Nat} {A:AF.FS} {q:iI} {d d':AF.cG} {x x':g4} {F:List aE} {h:Heap}
theorem sS {l':AF.bG} {a':Option Addr} {c':Nat} (hd:A.dirs[i]? = some d) (hx:q.qs[i]? = some x) (H:aD (cD A q::kF a' (l'.flatMap cA)::F) h) :
  aD (cr (zipWith dA (A.dirs.set i { d with now:=l' }) (q.qs.set i { x with na:=a',nc:=c' }))::F) h:=by
 refine qY hd hx (fun F' H'=>?_) H
 have H2:=H'.open
 exact aD.shut (m:=[kF a' (l'.flatMap cA),kF x.ba (d.base.flatMap cA),kF x.pa (d.pend.flatMap oW)]) (H2.ordT 4 [3,1,2])
theorem xD {l':List AF.Op} {a':Option Addr} {c':Nat} (hd:A.dirs[i]? = some d) (hx:q.qs[i]? = some x) (H:aD (cD A q::kF a' (l'.flatMap oW)::F) h) :
  aD (cr (zipWith dA (A.dirs.set i { d with pend:=l' }) (q.qs.set i { x with pa:=a',pc:=c' }))::F) h:=by
 refine qY hd hx (fun F' H'=>?_) H
 have H2:=H'.open
 exact aD.shut (m:=[kF x.na (d.now.flatMap cA),kF x.ba (d.base.flatMap cA),kF a' (l'.flatMap oW)]) (H2.ordT 4 [0,1,3])
theorem ik {α:Type} {l:List α} {i:Nat} {x y:α} (h:l[i]? = some x):(l.set i y)[i]? = some y:=by
 rw [getElem?_set,al rfl,al (aj.1 h).1]
theorem g8 {g:AF.FS→AF.FS} (h:A.fuse≠some 0):A.step g=(g A.stepOn,0):=by
 unfold AF.FS.step
 rw [ak h]
theorem jd {g:AF.FS→AF.FS} (h:A.fuse=some 0):A.step g=({ A with off:=true },60):=by
 unfold AF.FS.step
 rw [al h]
theorem pq {o:AF.Op} {o0 o3:Int} {o1 o2:ByteArray} (ho:oW o=[.int .i64 o0,.string o1,.string o2,.int .i64 o3]) (W:A.WF) (hs:A.steps<1099511627776) (hd:A.dirs[i]? = some d) (hf:BO d.now o) (H:aD (bp m A::F) h) :
  aC prog 135 [aI m,.int .i64 (i:Int),.agg #[.int .i64 o0,.string o1,.string o2,.int .i64 o3]] h fun v h'=>v=.int .i64 ((A.step fun g=>g.did i o).2:Int)∧aD (bp m (A.step fun g=>g.did i o).1::F) h':=by
 apply DQ.ap
 unfold Gz
 refine aQ H fun b0 h1 H1=>?_
 refine (kE W hs (H1.mv 1)).mono ?_
 rintro v h2 (⟨hfu,rfl,H2⟩ | ⟨hfu,rfl,H2⟩)
 · rw [aJ,show ((60:Int)==0)=false from rfl,aa,jd hfu];exact ⟨rfl,(H2.mv 1).drop⟩
 rw [aJ,show ((0:Int)==0)=true from rfl,ab,g8 hfu]
 have hWd:=W.each d (ai hd)
 have hnl:=hWd.ok.few
 have hpl:=hWd.pend
 obtain ⟨q,hq,H3⟩:=bS H2
 have hd2:A.stepOn.dirs[i]? = some d:=hd
 have hdl:A.stepOn.dirs.length=A.dirs.length:=rfl
 obtain ⟨x,hx,hz,hrn,_,_⟩:=dg hq hd2 (H3.mv 3 |>.mv 3)
 simp only [aY]
 refine bH (a:=q.da) (l:=A.dirs.length) (m:=q.dc) H3 rfl ?_
 refine bH (a:=q.da) (l:=A.dirs.length) (m:=q.dc) H3 rfl ?_
 refine fX cQ (by decide) (aH (H3.mv 2)) (iR hq) hz fun b hb hc=>rR (hc 1 _ rfl) ?_
 have B0:=H3.mv 4
 refine ⟨_,bZ B0 rfl,_,bZ B0 rfl,_,bZ B0 rfl,_,bZ B0 rfl,_,_,_,_,rfl,?_⟩
 have e118:Value.agg #[.int .i64 o0,.string o1,.string o2,.int .i64 o3]=.agg (oW o).toArray:=by rw [ho]
 rw [e118]
 refine (tM hWd.ok.up hf (fun h' hh=>by
  obtain ⟨x',hx',_,hr,_,_⟩:=dg hq hd2 (hh.mv 3 |>.mv 3);rw [hx] at hx';cases hx';exact hr) rfl (by omega) H3).mono ?_
 rintro v h3 ⟨na,nc,rfl,H4⟩
 rw [aF]
 refine ⟨rfl,rfl,rfl,bH (a:=q.da) (l:=A.dirs.length) (m:=q.dc) (H4.mv 1) rfl rfl,rfl,?_⟩
 have H5:=(qD H4).ordT 6 [4,0,1,2,3,5]
 have H6:=sS (A:=A.stepOn) (c':=nc) hd2 hx H5
 refine lv (A:=A.stepOn) (m:=m) (d':={ d with now:=AF.does d.now o }) (x':={ x with na:=na,nc:=nc }) hq hd2 hx (by decide) rfl (H6.ordT 4 [1,2,3,0]) fun h4 H7=>?_
 have hd3:=ik (y:={ d with now:=AF.does d.now o }) hd2
 have hx3:=ik (y:={ x with na:=na,nc:=nc }) hx
 have hq3:(q.qs.set i { x with na:=na,nc:=nc }).length=(A.stepOn.dirs.set i { d with now:=AF.does d.now o }).length:=by rw [length_set,length_set,hq]
 generalize hA3:({ A.stepOn with dirs:=A.stepOn.dirs.set i { d with now:=AF.does d.now o } }:AF.FS)=A3 at H7
 generalize hQ3:({ q with qs:=q.qs.set i { x with na:=na,nc:=nc } }:iI)=q3 at H7
 have hd4:A3.dirs[i]? = some { d with now:=AF.does d.now o }:=by rw [← hA3]; exact hd3
 have hx4:q3.qs[i]? = some { x with na:=na,nc:=nc }:=by rw [← hQ3]; exact hx3
 have hq4:q3.qs.length=A3.dirs.length:=by rw [← hA3,← hQ3]; exact hq3
 have hz4:(A3.dirs.zip q3.qs)[i]? = some ({ d with now:=AF.does d.now o },{ x with na:=na,nc:=nc }):=by rw [zip_eq_zipWith,getElem?_zipWith,hd4,hx4]
 have hda:q3.da=q.da:=by rw [← hQ3]
 have hB:∀ {h':Heap} {G:List aE},gD m A3 q3 G h'→Ld h' ((⟨m,0,none⟩:Addr).add 5) fun v=>aT v fun a l c=>aG (some (.slice q3.da A3.dirs.length q3.dc)) (.slice a l c):=fun H'=>bH (a:=q3.da) (l:=A3.dirs.length) (m:=q3.dc) H' rfl rfl
 refine bH (a:=q3.da) (l:=A3.dirs.length) (m:=q3.dc) H7 rfl ?_
 refine bH (a:=q3.da) (l:=A3.dirs.length) (m:=q3.dc) H7 rfl ?_
 refine fX cQ (by decide) (aH (H7.mv 2)) (iR hq4) hz4 fun b hb hc=>rR (hc 3 _ rfl) ?_
 have hC:∀ {h':Heap} {G:List aE},gD m A3 q3 G h'→Ld h' ((b.add (i*4)).add 3) fun v=>aT v fun a l c=>aG (some (.slice x.pa d.pend.length x.pc)) (.slice a l c):=fun H'=>by
  have hr:=aH (H'.mv 2);rw [hb] at hr;exact rR (J9 cQ hr hz4 (j:=3) rfl) rfl
 have hI:∀ {h':Heap} {G:List aE},gD m A3 q3 G h'→aR q3.da A3.dirs.length (i:Int) 4 fun a10=>aG (some (.pointer (some (b.add (i*4))))) (.pointer (some a10)):=fun H'=>
  fX cQ (by decide) (aH (H'.mv 2)) (iR hq4) hz4 fun b' hb' _=>by
   rw [hb] at hb';cases hb'
   rfl
 have hRp:∀ {h':Heap} {G:List aE},gD m A3 q3 G h'→dF h' x.pa (d.pend.flatMap oW):=fun H'=>by
  obtain ⟨x',hx',_,_,_,hr⟩:=dg hq4 hd4 (H'.mv 3 |>.mv 3);rw [hx4] at hx';cases hx';exact hr
 have B1:=H7.mv 4
 refine ⟨_,bZ B1 rfl,_,bZ B1 rfl,_,bZ B1 rfl,_,bZ B1 rfl,_,_,_,_,rfl,?_⟩
 have tail:∀ (a':Option Addr) (c':Nat) (h':Heap) (G:List aE),aD (aL 204 4 a' (d.pend++[o]).length c' ((d.pend++[o]).flatMap oW)::pt m (.cells (f9 A3 q3) 124 (0,0))::cT A3 q3::eE A3 q3::cD A3 q3::G) h'→(∀ h'',aD (bp m (A.stepOn.did i o)::G) h''→aD (bp m (A.stepOn.did i o)::F) h'')→
   aR q3.da A3.dirs.length (i:Int) 4 fun a16=>bz h' ((a16.add 3).add 0) (.slice a' (d.pend++[o]).length c') fun h_10=>
    (fun v h'=>v=Value.int .i64 ((A.stepOn.did i o,0).2:Int)∧aD (bp m (A.stepOn.did i o,0).1::F) h') (.int .i64 0) h_10:=by
  intro a' c' h' G HH hG;have K1:=(qD HH).ordT 5 [4,0,1,2,3];have K2:=xD (c':=c') hd4 hx4 K1;refine lv (A:=A3) (q:=q3) (m:=m) (F:=G) (d':=(⟨d.name,AF.does d.now o,d.base,d.pend++[o]⟩:AF.cG)) (x':=(⟨na,nc,x.ba,x.bc,a',c'⟩:g4)) hq4 hd4 hx4 (by decide) rfl (K2.ordT 4 [1,2,3,0]) fun h5 K3=>?_;refine ⟨rfl,hG h5 ?_⟩;have eA:({ A3 with dirs:=A3.dirs.set i (⟨d.name,AF.does d.now o,d.base,d.pend++[o]⟩:AF.cG) }:AF.FS)=A.stepOn.did i o:=by
   rw [← hA3];unfold AF.FS.did AF.FS.setDir;dsimp only;rw [set_set,dw (fun d=>d.did o) hd2]
   rfl
  unfold gD at K3;rw [eA] at K3;refine dH (q:={ q3 with qs:=q3.qs.set i (⟨na,nc,x.ba,x.bc,a',c'⟩:g4) }) ?_ K3;rw [← eA];show (q3.qs.set i _).length=(A3.dirs.set i _).length;rw [length_set,length_set,hq4]
 have app1:∀ {b1:Nat} {h':Heap} {G:List aE} {K:Value→Heap→Prop},aD (pt b1 (.cells #[] 204 (0,0))::pt m (.cells (f9 A3 q3) 124 (0,0))::cT A3 q3::eE A3 q3::cD A3 q3::G) h'→
   (∀ a' c' h'',aD (aL 204 4 a' d.pend.length c' (d.pend.flatMap oW)::pt m (.cells (f9 A3 q3) 124 (0,0))::cT A3 q3::eE A3 q3::cD A3 q3::G) h''→K (.slice a' d.pend.length c') h'')→
   aX prog (append_ #[156,156] 156 #[.slice (some (Addr.mk b1 0 none)) 0 0,.slice x.pa d.pend.length x.pc]) h' K:=by
  intro b1 h' G K HH hK;have K1:aD (aL 204 4 (some ⟨b1,0,none⟩) 0 0 []::pt m (.cells (f9 A3 q3) 124 (0,0))::cT A3 q3::eE A3 q3::cD A3 q3::G) h':=fB HH (bO _) (av _) (au _) rfl rfl;refine jR Jz Bp B3 K1 (n:=d.pend.length) (ce (hRp K1.drop) (oe ut _)) (zC _) (by omega) fun a' c' h'' _ K2=>?_;rw [Nat.zero_add] at K2 ⊢;exact hK a' c' h'' K2
 have app2:∀ {b2:Nat} {a:Option Addr} {c:Nat} {h':Heap} {G:List aE} {K:Value→Heap→Prop},aD (pt b2 (.cells #[.int .i64 o0,.string o1,.string o2,.int .i64 o3] 204 (0,0))::aL 204 4 a d.pend.length c (d.pend.flatMap oW)::G) h'→
   (∀ a' c' h'',aD (aL 204 4 a' (d.pend++[o]).length c' ((d.pend++[o]).flatMap oW)::pt b2 (.cells #[.int .i64 o0,.string o1,.string o2,.int .i64 o3] 204 (0,0))::G) h''→K (.slice a' (d.pend++[o]).length c') h'')→
   aX prog (append_ #[156,156] 156 #[.slice a d.pend.length c,.slice (some (Addr.mk b2 0 none)) 1 1]) h' K:=by
  intro b2 a c h' G K HH hK;refine jR Jz Bp B3 (HH.mv 1) (n:=1) (ys:=oW o) (ce (ln HH (by rw [ho])) (by rw [ut])) (vP o) (by omega) fun a' c' h'' _ K2=>?_;have e1:d.pend.flatMap oW++oW o=(d.pend++[o]).flatMap oW:=by rw [flatMap_append,flatMap_cons,List.flatMap_nil,append_nil]
  have e2:d.pend.length+1=(d.pend++[o]).length:=by rw [am,length_singleton]
  rw [e1,e2] at K2;rw [e2];exact hK a' c' h'' K2
 refine ⟨?_,?_⟩
 · -- the empty list first
   refine aQ H7 fun b1 h5 H8=>?_;have R8:=H8.drop;refine ⟨rfl,rfl,rfl,hB R8,rfl,rfl,rfl,rfl,hB R8,rfl,hI R8,rfl,hC R8,⟨_,bZ (R8.mv 4) rfl,_,bZ (R8.mv 4) rfl,_,bZ (R8.mv 4) rfl,_,bZ (R8.mv 4) rfl,_,_,_,_,rfl,rfl⟩,?_,?_⟩
   · refine app1 H8 fun a' c' h6 H9=>?_;rw [aF];have R9:=H9.drop;refine ⟨rfl,rfl,rfl,hB R9,rfl,⟨_,bZ (R9.mv 4) rfl,_,bZ (R9.mv 4) rfl,_,bZ (R9.mv 4) rfl,_,bZ (R9.mv 4) rfl,_,_,_,_,rfl,rfl⟩,?_⟩;refine aQ H9 fun b2 h7 H10=>?_;have R10:=H10.drop.drop;refine ⟨rfl,rfl,rfl,hB R10,rfl,rfl,rfl,rfl,hB R10,rfl,hI R10,rfl,hC R10,?_⟩;refine app2 H10 fun a2 c2 h8 H11=>?_;rw [aF];have Jv:=H11.drop.drop;refine ⟨rfl,rfl,rfl,hB Jv,rfl,?_⟩;exact tail a2 c2 h8 (pt b0 (.cells #[.int .i64 o0,.string o1,.string o2,.int .i64 o3] 204 (0,0))::F) (H11.ordT 7 [0,2,3,4,5,6]) fun h'' K=>(K.mv 1).drop
   · refine aQ H8 fun b3 h6 H9=>?_;have R9:=H9.drop.drop;refine ⟨rfl,rfl,rfl,hB R9,rfl,rfl,rfl,rfl,hB R9,rfl,hI R9,rfl,hC R9,?_⟩;refine app1 (G:=pt b0 (.cells #[.int .i64 o0,.string o1,.string o2,.int .i64 o3] 204 (0,0))::pt b3 (.cells #[.int .i64 o0,.string o1,.string o2,.int .i64 o3] 204 (0,0))::F) (H9.ordT 7 [1,2,3,4,5,6,0]) fun a' c' h7 H10=>?_;rw [aF];have R10:=H10.drop;refine ⟨rfl,rfl,rfl,hB R10,rfl,⟨_,bZ (R10.mv 4) rfl,_,bZ (R10.mv 4) rfl,_,bZ (R10.mv 4) rfl,_,bZ (R10.mv 4) rfl,_,_,_,_,rfl,rfl⟩,?_⟩;refine app2 (H10.ordT 7 [6,0,1,2,3,4,5]) fun a2 c2 h8 H11=>?_;rw [aF];have Jv:=H11.drop.drop;refine ⟨rfl,rfl,rfl,hB Jv,rfl,?_⟩;exact tail a2 c2 h8 (pt b0 (.cells #[.int .i64 o0,.string o1,.string o2,.int .i64 o3] 204 (0,0))::F) (H11.ordT 7 [0,2,3,4,5,6]) fun h'' K=>(K.mv 1).drop
 · refine aQ H7 fun b4 h5 H8=>?_;have R8:=H8.drop;refine ⟨rfl,rfl,rfl,hB R8,rfl,rfl,rfl,rfl,hB R8,rfl,hI R8,rfl,hC R8,?_⟩;refine aQ H8 fun b5 h6 H9=>?_;have R9:=H9.drop.drop;refine ⟨rfl,rfl,rfl,hB R9,rfl,rfl,rfl,rfl,hB R9,rfl,hI R9,rfl,hC R9,⟨_,bZ (R9.mv 4) rfl,_,bZ (R9.mv 4) rfl,_,bZ (R9.mv 4) rfl,_,bZ (R9.mv 4) rfl,_,_,_,_,rfl,rfl⟩,?_⟩;refine app1 (G:=pt b0 (.cells #[.int .i64 o0,.string o1,.string o2,.int .i64 o3] 204 (0,0))::pt b4 (.cells #[.int .i64 o0,.string o1,.string o2,.int .i64 o3] 204 (0,0))::F) (H9.ordT 7 [0,2,3,4,5,6,1]) fun a' c' h7 H10=>?_;rw [aF];have R10:=H10.drop;refine ⟨rfl,rfl,rfl,hB R10,rfl,⟨_,bZ (R10.mv 4) rfl,_,bZ (R10.mv 4) rfl,_,bZ (R10.mv 4) rfl,_,bZ (R10.mv 4) rfl,_,_,_,_,rfl,rfl⟩,?_⟩;refine app2 (H10.ordT 7 [6,0,1,2,3,4,5]) fun a2 c2 h8 H11=>?_;rw [aF];have Jv:=H11.drop.drop;refine ⟨rfl,rfl,rfl,hB Jv,rfl,?_⟩;exact tail a2 c2 h8 (pt b0 (.cells #[.int .i64 o0,.string o1,.string o2,.int .i64 o3] 204 (0,0))::F) (H11.ordT 7 [0,2,3,4,5,6]) fun h'' K=>(K.mv 1).drop
end
theorem xz (a b:List Nat):bT (a++b)=bT a++bT b:=by
 unfold bT
 rw [map_append]
 apply ByteArray.ext
 rw [ByteArray.data_append]
 simp
theorem LR:prog.underlying 121=some (.slice 206):=by kernel_rfl
theorem GM:fS prog 121=true:=by kernel_rfl
theorem GY:jY prog 206 2 24=true:=by kernel_rfl
theorem wl (x:AF.dy):∀ u∈lP x,u.oneCell'=true:=by
 intro u hu
 simp [lP] at hu
 rcases hu with rfl | rfl <;> rfl
theorem vq (l:List Nat) (i:Nat):(l.take i).sum≤l.sum:=by
 have:l.sum=(l.take i).sum+(l.drop i).sum:=by rw [← sum_append,take_append_drop]
 omega
section
variable {m i:Nat} {A:AF.FS} {q:iI} {d d':AF.cG} {x x':g4} {F:List aE} {h:Heap} {dir name:ByteArray}
theorem ki {j k:Nat} {v:Value} {y y':AF.dy} {K:Heap→Prop} (hy:A.files[k]? = some y) (hj:j<2) (hc:(lP y).set j v=lP y') (H:gD m A q F h) (hK:∀ h',gD m { A with files:=A.files.set k y' } q F h'→K h') :
  aR q.fa A.files.length (k:Int) 2 fun a=>bz h ((a.add j).add 0) v K:=by
 refine fX kW (by decide) (aH (H.mv 1)) rfl hy fun b hb _=>?_
 have H2:=H.mv 1
 unfold cT at H2
 rw [hb] at H2
 refine qP y' kW H2 hy hj hc fun h' H'=>hK h' ?_
 rw [← hb] at H'
 have H3:=H'.ordT 2 [1,0]
 unfold gD cT eE cD f9 at *
 dsimp only at *
 rw [length_set]
 exact H3
theorem dM {k:Nat} {y:AF.dy} {K:Addr→Prop} (hy:A.files[k]? = some y) (H:gD m A q F h) (hK:∀ b,cz h (b.add 0)=some (.string (bT y.b))→cz h (b.add 1)=some (.int .i64 (y.safe:Int))→K b):aR q.fa A.files.length (k:Int) 2 K:=
 fX kW (by decide) (aH (H.mv 1)) rfl hy fun b hb hc=>hK _ (hc 0 _ rfl) (hc 1 _ rfl)
theorem cp {K:Addr→Prop} (hq:q.qs.length=A.dirs.length) (hd:A.dirs[i]? = some d) (hx:q.qs[i]? = some x) (H:gD m A q F h)
  (hK:∀ b,(∀ j v,(fN (d,x))[j]? = some v→cz h (b.add j)=some v)→K b):aR q.da A.dirs.length (i:Int) 4 K:=
 fX cQ (by decide) (aH (H.mv 2)) (iR hq) (by rw [zip_eq_zipWith,getElem?_zipWith,hd,hx]) fun b hb hc=>hK _ hc
theorem fE (hq:q.qs.length=A.dirs.length) (hd:A.dirs[i]? = some d) (hx:q.qs[i]? = some x) (H:gD m A q F h):dF h x.na (d.now.flatMap cA)∧dF h x.ba (d.base.flatMap cA)∧dF h x.pa (d.pend.flatMap oW):=by
 obtain ⟨x',hx',_,h1⟩:=dg hq hd (H.mv 3 |>.mv 3)
 rw [hx] at hx'
 cases hx'
 exact h1
theorem CK {n:Int} (H:aD (bp m A::F) h):aC prog 82 [aI m,.int .i64 n] h fun v h'=>v=.int .i64 ((A.setRoom n).2:Int)∧aD (bp m (A.setRoom n).1::F) h':=by
 apply EV.ap
 unfold Kv AF.FS.setRoom
 by_cases h1:n<0
 · rw [af h1,ab,al (.inl h1)];exact ⟨rfl,H⟩
 · rw [ae h1,aa];by_cases h2:1073741824<n
   · rw [af (show n>1073741824 from h2),ab,al (.inr h2)];exact ⟨rfl,H⟩
   · rw [ae (show ¬ n>1073741824 from h2),aa,ak (by omega)];obtain ⟨q,hq,H1⟩:=bS H;rw [aY,aV];refine bQ (c':=f9 { A with room:=n.toNat } q) H1 (by show 0<6; decide) (by show _=(#[.int .i64 ((n.toNat:Nat):Int),.int .i64 (A.steps:Int),.int .i64 (eZ A.fuse),.bool A.off,.slice q.fa A.files.length q.fc,.slice q.da A.dirs.length q.dc]:Array Value); rw [Int.toNat_of_nonneg (by omega)]; rfl) fun h2 H2=>?_;exact ⟨rfl,dH (A:={ A with room:=n.toNat }) hq H2⟩
theorem CJ {n:Int} (H:aD (bp m A::F) h):aC prog 83 [aI m,.int .i64 n] h fun v h'=>v=.int .i64 ((A.setFuse n).2:Int)∧aD (bp m (A.setFuse n).1::F) h':=by
 apply EU.ap
 unfold Ku AF.FS.setFuse
 by_cases h1:n<0
 · rw [af h1,ab,al h1];exact ⟨rfl,H⟩
 · rw [ae h1,aa,ak h1];obtain ⟨q,hq,H1⟩:=bS H;rw [aY,aV];refine bQ (c':=f9 { A with fuse:=some n.toNat } q) H1 (by show 2<6; decide) (by show _=(#[.int .i64 (A.room:Int),.int .i64 (A.steps:Int),.int .i64 ((n.toNat:Nat):Int),.bool A.off,.slice q.fa A.files.length q.fc,.slice q.da A.dirs.length q.dc]:Array Value); rw [Int.toNat_of_nonneg (by omega)]; rfl) fun h2 H2=>?_;exact ⟨rfl,dH (A:={ A with fuse:=some n.toNat }) hq H2⟩
theorem wH (W:A.WF) (H:aD (bp m A::F) h):aC prog 88 [aI m] h fun v h'=>v=.int .i64 (A.used:Int)∧h'=h:=by
 apply EQ.ap
 unfold Kq
 obtain ⟨q,hq,H1⟩:=bS H
 have hle:=W.used_le
 have hfew:=W.few
 simp only [aY]
 let len:Nat→Nat:=fun x=>(A.X x).b.length
 let uS:Nat→Nat:=fun i=>(((A.dirs.take i).flatMap fun (d:AF.cG)=>d.now.map (·.2)).map len).sum
 have hfull:uS A.dirs.length=A.used:=by
  show (((A.dirs.take A.dirs.length).flatMap fun (d:AF.cG)=>d.now.map (·.2)).map len).sum=_;rw [take_length]
  rfl
 have hsucc:∀ (i:Nat) (d:AF.cG),A.dirs[i]? = some d→uS (i+1)=uS i+(d.now.map fun (p:ByteArray×Nat)=>len p.2).sum:=by
  intro i d hd;show (((A.dirs.take (i+1)).flatMap fun (d:AF.cG)=>d.now.map (·.2)).map len).sum=_;rw [ax,hd,flatMap_append,map_append,sum_append];show _+((d.now.map (fun (p:ByteArray×Nat)=>p.2)++[]).map len).sum=_;rw [append_nil,map_map]
  rfl
 have hmono:∀ i,uS i≤A.used:=by
  intro i;rw [← hfull];show (((A.dirs.take i).flatMap fun (d:AF.cG)=>d.now.map (·.2)).map len).sum≤(((A.dirs.take A.dirs.length).flatMap fun (d:AF.cG)=>d.now.map (·.2)).map len).sum;rw [take_length];have:A.dirs=A.dirs.take i++A.dirs.drop i:=(take_append_drop i _).symm;rw [show (A.dirs.flatMap fun (d:AF.cG)=>d.now.map (·.2))=((A.dirs.take i).flatMap fun (d:AF.cG)=>d.now.map (·.2))++((A.dirs.drop i).flatMap fun (d:AF.cG)=>d.now.map (·.2)) by rw [← flatMap_append,take_append_drop],map_append,sum_append];omega
 refine ⟨fun st hh=>hh=h∧∃ i:Nat,st=((uS i:Int),(i:Int))∧i≤A.dirs.length,fun st _=>((A.dirs.length:Int) - st.2).toNat,⟨rfl,0,rfl,au _⟩,?_⟩
 rintro st h1 ⟨rfl,i,rfl,hi⟩
 refine bH (a:=q.da) (l:=A.dirs.length) (m:=q.dc) H1 rfl ?_
 dsimp only
 by_cases hlt:i<A.dirs.length
 · rw [af (show ((i:Int)<(A.dirs.length:Int)) by omega),ab];obtain ⟨d,hd⟩:∃ d,A.dirs[i]? = some d:=⟨_,ah hlt⟩
   obtain ⟨x,hx,_⟩:=dg hq hd (H1.mv 3 |>.mv 3);have hrn:=(fE hq hd hx H1).1;have hok:=(W.each d (ai hd)).ok;have hnl:=hok.few
   let uI:Nat→Nat:=fun k=>uS i+((d.now.take k).map fun (p:ByteArray×Nat)=>len p.2).sum
   have hI:∀ k,uI k≤A.used:=by
    intro k;refine Nat.le_trans ?_ (hmono (i+1));rw [hsucc i d hd];show uS i+((d.now.take k).map fun (p:ByteArray×Nat)=>len p.2).sum≤_;have:=vq (d.now.map fun (p:ByteArray×Nat)=>len p.2) k;rw [← map_take] at this;omega
   refine ⟨fun st hh=>hh=h1∧∃ k:Nat,st=((uI k:Int),(k:Int))∧k≤d.now.length,fun st _=>((d.now.length:Int) - st.2).toNat,⟨rfl,0,by show ((uS i:Int),(0:Int))=(((uS i+0:Nat):Int),_); rw [Nat.add_zero]; rfl,au _⟩,?_⟩;rintro st h2 ⟨rfl,k,rfl,hk⟩;refine bH (a:=q.da) (l:=A.dirs.length) (m:=q.dc) H1 rfl ?_;refine cp hq hd hx H1 fun b hc=>rR (hc 1 _ rfl) ?_;dsimp only;by_cases hlt2:k<d.now.length
   · rw [af (show ((k:Int)<(d.now.length:Int)) by omega),ab];obtain ⟨p,hp⟩:∃ p,d.now[k]? = some p:=⟨_,ah hlt2⟩
     have hpf:=(hok.each p (ai hp)).1;obtain ⟨y,hy⟩:∃ y,A.files[p.2]? = some y:=⟨_,ah hpf⟩
     have hy8:=(W.files y (ai hy)).2.2;refine bH (a:=q.fa) (l:=A.files.length) (m:=q.fc) H1 rfl ?_;refine bH (a:=q.da) (l:=A.dirs.length) (m:=q.dc) H1 rfl ?_;refine cp hq hd hx H1 fun b hc=>rR (hc 1 _ rfl) ?_;refine fX cn (by decide) hrn rfl hp fun b hb hc=>DV (hc 1 _ rfl) ?_;refine dM hy H1 fun b e0 e1=>gm e0 ?_;have hlen:len p.2=y.b.length:=by
      show (A.X p.2).b.length=_;rw [AF.rA hy]
     have hI1:uI (k+1)=uI k+y.b.length:=by
      show uS i+((d.now.take (k+1)).map fun (p:ByteArray×Nat)=>len p.2).sum=uS i+((d.now.take k).map fun (p:ByteArray×Nat)=>len p.2).sum+_;rw [ax,hp,map_append,sum_append];show uS i+(_+(len p.2+0))=_;rw [hlen];omega
     have hb1:=hI (k+1);rw [km hy8,aK (by omega),IntWalk.i64_in _ (by omega)];refine ⟨⟨rfl,k+1,by rw [hI1]; rfl,by omega⟩,by show ((d.now.length:Int) - ((k+1:Nat):Int)).toNat<((d.now.length:Int) - (k:Int)).toNat; omega⟩
   · rw [ae (by omega),aa,aK (by omega)];have ek:uI k=uS (i+1):=by
      rw [hsucc i d hd];show uS i+((d.now.take k).map fun (p:ByteArray×Nat)=>len p.2).sum=_;rw [ar (by omega)]
     refine ⟨⟨rfl,i+1,by rw [ek],by omega⟩,by show ((A.dirs.length:Int) - ((i+1:Nat):Int)).toNat<((A.dirs.length:Int) - (i:Int)).toNat; omega⟩
 · rw [ae (by omega),aa];have:i=A.dirs.length:=by omega
   rw [this,hfull];exact ⟨rfl,rfl⟩
end
section
variable {m i:Nat} {A:AF.FS} {q:iI} {d d':AF.cG} {x x':g4} {F:List aE} {h:Heap} {dir name:ByteArray}
theorem entry_err {e:Nat} (h:A.entry dir name=.error e):e≠0:=by
 unfold AF.FS.entry at h
 cases hr:A.ready dir [name] with
 | error e'=>
   rw [hr] at h;cases h;exact hZ hr
 | ok i=>
   rw [hr] at h;dsimp only at h;split at h
   · cases h
   · cases h; decide
theorem jt (W:A.WF) {k:Nat} (h:A.entry dir name=.ok (i,k)):∃ d y,A.dirs[i]? = some d∧d.name=dir∧AF.of d.now name=some k∧A.files[k]? = some y∧A.ready dir [name]=.ok i:=by
 obtain ⟨hr,ho⟩:=AF.lQ h
 obtain ⟨_,_,_,_,d,hd,hdn⟩:=AF.dD hr
 rw [AF.jz hd] at ho
 have hok:=(W.each d (ai hd)).ok
 have hlt:=(hok.each _ (AF.jW ho)).1
 exact ⟨d,A.files[k],hd,hdn,ho,ah hlt,hr⟩
def xp:Except Nat (List Nat)→Value
 | .ok b=>.tuple #[.string (bT b),.int .i64 0]
 | .error e=>.tuple #[.string .empty,.int .i64 (e:Int)]
theorem wF (W:A.WF) (H:aD (bp m A::F) h):aC prog 93 [aI m,.string dir,.string name] h fun v h'=>v=xp (A.read dir name)∧h'=h:=by
 apply EO.ap
 unfold Kn
 refine (mC W H).mono ?_
 rintro v h1 ⟨rfl,rfl⟩
 unfold AF.FS.read
 cases he:A.entry dir name with
 | error e=>
   refine ⟨_,_,_,rfl,?_⟩;rw [bo (entry_err he),ab];exact ⟨rfl,rfl⟩
 | ok p=>
   obtain ⟨i,k⟩:=p;obtain ⟨d,y,hd,_,_,hy,_⟩:=jt W he;refine ⟨_,_,_,rfl,?_⟩;rw [show ((0:Int)!=0)=false from rfl,aa];obtain ⟨q,hq,H1⟩:=bS H;simp only [aY];refine bH (a:=q.fa) (l:=A.files.length) (m:=q.fc) H1 rfl ?_;refine dM hy H1 fun b e0 e1=>gm e0 ?_;simp only [AF.rA hy];exact ⟨rfl,by trivial⟩
theorem kD (W:A.WF) (H:aD (bp m A::F) h):aC prog 91 [aI m,.string dir] h fun v h'=>
  (∃ (ks:List ByteArray) (a:Option Addr) (c:Nat),A.list dir=.ok ks∧v=.tuple #[.slice a ks.length c,.int .i64 0]∧aD (aL 9 1 a ks.length c (ks.map Value.string)::bp m A::F) h')∨
  (∃ e:Nat,A.list dir=.error e∧e≠0∧v=.tuple #[.slice none 0 0,.int .i64 (e:Int)]∧aD (bp m A::F) h'):=by
 apply EP.ap
 unfold Ko
 have hfew:=W.few
 refine (i9 (by omega) H).mono ?_
 rintro v h1 ⟨rfl,rfl⟩
 rw [m7]
 unfold AF.FS.list
 cases hr:A.ready dir [] with
 | error e=>
   have e0:=hZ hr;refine ⟨_,_,rfl,?_⟩;rw [bo e0,ab];exact .inr ⟨e,rfl,e0,rfl,H⟩
 | ok i=>
   obtain ⟨_,_,_,_,d,hd,_⟩:=AF.dD hr;refine ⟨_,_,rfl,?_⟩;rw [show ((0:Int)!=0)=false from rfl,aa];dsimp only;rw [AF.jz hd];have hnl:=(W.each d (ai hd)).ok.few;obtain ⟨q,hq,H1⟩:=bS H;obtain ⟨x,hx,_⟩:=dg hq hd (H1.mv 3 |>.mv 3);simp only [aY];refine ⟨fun st hh=>∃ (k:Nat) (oa:Option Addr) (oc:Nat),st=(⟨oa,((d.now.take k).map (·.1)).length,oc⟩,(k:Int))∧k≤d.now.length∧aD (aL 9 1 oa ((d.now.take k).map (·.1)).length oc (((d.now.take k).map (·.1)).map Value.string)::pt m (.cells (f9 A q) 124 (0,0))::cT A q::eE A q::cD A q::F) hh,
    fun st _=>((d.now.length:Int) - st.2).toNat,⟨0,none,0,rfl,au _,bE 9 1 H1⟩,?_⟩
   rintro st h2 ⟨k,oa,oc,rfl,hk,H2⟩;have R2:=H2.drop;refine bH (a:=q.da) (l:=A.dirs.length) (m:=q.dc) R2 rfl ?_;refine cp hq hd hx R2 fun b hc=>rR (hc 1 _ rfl) ?_;dsimp only;by_cases hlt:k<d.now.length
   · rw [af (show ((k:Int)<(d.now.length:Int)) by omega),ab];obtain ⟨p,hp⟩:∃ p,d.now[k]? = some p:=⟨_,ah hlt⟩
     have ht:(d.now.take (k+1)).map (·.1)=(d.now.take k).map (·.1)++[p.1]:=by
      rw [ax,hp,map_append]
      rfl
     have hlen:((d.now.take k).map (·.1)).length=k:=by rw [an,aq]; omega
     refine bH (a:=q.da) (l:=A.dirs.length) (m:=q.dc) R2 rfl ?_;refine cp hq hd hx R2 fun b hc=>rR (hc 1 _ rfl) ?_;refine fX cn (by decide) (fE hq hd hx R2).1 rfl hp fun b hb hc=>gm (hc 0 _ rfl) ?_;rw [aK (by omega)];refine BH (K:=fun _ h2 a l c=>_) (by rw [hlen]; omega) H2 fun b3 a2 c2 h3 H3=>?_;rw [← ht] at H3 ⊢;exact ⟨⟨k+1,a2,c2,rfl,by omega,H3⟩,by show ((d.now.length:Int) - ((k+1:Nat):Int)).toNat<((d.now.length:Int) - (k:Int)).toNat; omega⟩
   · rw [ae (by omega),aa];have et:d.now.take k=d.now:=ar (by omega);rw [et] at H2 ⊢;exact .inl ⟨d.now.map (fun p:ByteArray×Nat=>p.1),oa,oc,rfl,rfl,(dH hq (H2.ordT 5 [1,2,3,4,0])).mv 1⟩
theorem m4 {f:AF.FS} {k:Nat} {y:AF.dy} {g:AF.dy→AF.dy} (hy:f.files[k]? = some y):({ f with files:=f.files.set k (g y) }:AF.FS)=f.setFile k g:=by
 unfold AF.FS.setFile
 rw [dw g hy]
theorem wK {s:ByteArray} (W:A.WF) (hs:A.steps<1099511627776) (hsz:s.size<4611686018427387904) (H:aD (bp m A::F) h) :
  aC prog 77 [aI m,.string dir,.string name,.string s] h fun v h'=>v=.int .i64 ((A.append dir name (sb s)).2:Int)∧aD (bp m (A.append dir name (sb s)).1::F) h':=by
 apply E1.ap
 unfold KC
 refine (mC W H).mono ?_
 rintro v h1 ⟨rfl,rfl⟩
 cases he:A.entry dir name with
 | error e=>
   have eA:A.append dir name (sb s)=(A,e):=by unfold AF.FS.append; rw [he]
   refine ⟨_,_,_,rfl,?_⟩;rw [bo (entry_err he),ab,eA];exact ⟨rfl,H⟩
 | ok p=>
   obtain ⟨i,k⟩:=p;obtain ⟨d,y,hd,_,_,hy,_⟩:=jt W he;have hyW:=W.files y (ai hy);have hyl:=km hyW.2.2;have eA:A.append dir name (sb s)=if 16777216<y.b.length+(sb s).length then (A,67) else if A.room<A.used+(sb s).length then (A,64) else A.step fun g=>g.setFile k fun y=>{ y with b:=y.b++sb s }:=by
    unfold AF.FS.append;rw [he];dsimp only;rw [AF.rA hy]
   have hsl:=bd s;have hul:=W.used_le;have hroom:=W.room;refine ⟨_,_,_,rfl,?_⟩;rw [show ((0:Int)!=0)=false from rfl,aa];obtain ⟨q,hq,H1⟩:=bS H;simp only [aY];refine bH (a:=q.fa) (l:=A.files.length) (m:=q.fc) H1 rfl ?_;refine dM hy H1 fun b e0 e1=>gm e0 ?_;rw [eA,hyl,IntWalk.i64_in _ (by omega),hsl];by_cases c1:16777216<y.b.length+s.size
   · rw [af (by omega),ab,al c1];exact ⟨rfl,H⟩
   · rw [ae (by omega),aa,ak c1];refine ⟨_,(wH W H).mono fun v h' hh=>⟨hh.1,hh.2⟩,?_⟩;rw [aJ];refine gr (x:=(A.room:Int)) H1 rfl ?_;rw [IntWalk.i64_in _ (by omega)];by_cases c2:A.room<A.used+s.size
     · rw [af (by omega),ab,al c2];exact ⟨rfl,H⟩
     · rw [ae (by omega),aa,ak c2];refine (kE W hs H).mono ?_;rintro v h2 (⟨hfu,rfl,H2⟩ | ⟨hfu,rfl,H2⟩)
       · rw [aJ,show ((60:Int)==0)=false from rfl,aa,jd hfu];exact ⟨rfl,H2⟩
       · rw [aJ,show ((0:Int)==0)=true from rfl,ab,g8 hfu];obtain ⟨q,hq,H3⟩:=bS H2;have hy2:A.stepOn.files[k]? = some y:=hy;refine bH (a:=q.fa) (l:=A.files.length) (m:=q.fc) H3 rfl ?_;refine bH (a:=q.fa) (l:=A.files.length) (m:=q.fc) H3 rfl ?_;refine dM (A:=A.stepOn) hy2 H3 fun b e0 e1=>gm e0 ?_;refine ⟨by rw [hyl]; omega,?_⟩;refine ki (A:=A.stepOn) (m:=m) (y':={ y with b:=y.b++sb s }) hy2 (j:=0) (by decide) ?_ H3 fun h4 H4=>?_
         · show [Value.string (bT y.b++s),.int .i64 (y.safe:Int)]=[Value.string (bT (y.b++sb s)),.int .i64 (y.safe:Int)]
           rw [xz,uu]
         · unfold gD at H4;rw [m4 (g:=fun y=>{ y with b:=y.b++sb s }) hy2] at H4;exact ⟨rfl,dH (A:=A.stepOn.setFile k fun y=>{ y with b:=y.b++sb s }) hq H4⟩
theorem wJ (W:A.WF) (hs:A.steps<1099511627776) (H:aD (bp m A::F) h) :
  aC prog 78 [aI m,.string dir,.string name] h fun v h'=>v=.int .i64 ((A.sync dir name).2:Int)∧aD (bp m (A.sync dir name).1::F) h':=by
 apply E0.ap
 unfold KB
 refine (mC W H).mono ?_
 rintro v h1 ⟨rfl,rfl⟩
 cases he:A.entry dir name with
 | error e=>
   have eA:A.sync dir name=(A,e):=by unfold AF.FS.sync; rw [he]
   refine ⟨_,_,_,rfl,?_⟩;rw [bo (entry_err he),ab,eA];exact ⟨rfl,H⟩
 | ok p=>
   obtain ⟨i,k⟩:=p;obtain ⟨d,y,hd,_,_,hy,_⟩:=jt W he;have eA:A.sync dir name=A.step fun g=>g.setFile k fun y=>{ y with safe:=y.b.length }:=by unfold AF.FS.sync; rw [he]
   rw [eA];have hyl:=km (W.files y (ai hy)).2.2;refine ⟨_,_,_,rfl,?_⟩;rw [show ((0:Int)!=0)=false from rfl,aa];refine (kE W hs H).mono ?_;rintro v h2 (⟨hfu,rfl,H2⟩ | ⟨hfu,rfl,H2⟩)
   · rw [aJ,show ((60:Int)==0)=false from rfl,aa,jd hfu];exact ⟨rfl,H2⟩
   · rw [aJ,show ((0:Int)==0)=true from rfl,ab,g8 hfu];obtain ⟨q,hq,H3⟩:=bS H2;have hy2:A.stepOn.files[k]? = some y:=hy;simp only [aY];refine bH (a:=q.fa) (l:=A.files.length) (m:=q.fc) H3 rfl ?_;refine bH (a:=q.fa) (l:=A.files.length) (m:=q.fc) H3 rfl ?_;refine dM (A:=A.stepOn) hy2 H3 fun b e0 e1=>gm e0 ?_;refine ki (A:=A.stepOn) (m:=m) (y':={ y with safe:=y.b.length }) hy2 (j:=1) (by decide) ?_ H3 fun h4 H4=>?_
     · rw [hyl]
       rfl
     · unfold gD at H4;rw [m4 (g:=fun y=>{ y with safe:=y.b.length }) hy2] at H4;exact ⟨rfl,dH (A:=A.stepOn.setFile k fun y=>{ y with safe:=y.b.length }) hq H4⟩
end
section
variable {m i:Nat} {A:AF.FS} {q:iI} {d d':AF.cG} {x x':g4} {F:List aE} {h:Heap} {dir name:ByteArray}
theorem pH (hd:A.dirs[i]? = some d) (hx:q.qs[i]? = some x) (hP:∀ F',aD (dA d x::F') h→aD (dA d' x'::F') h) (H:aD (cD A q::F) h) :
  aD (cr (zipWith dA (A.dirs.set i d') (q.qs.set i x'))::F) h:=by
 have H2:=iB H hd hx
 have H3:=hP _ H2
 exact qV (aj.1 hd).1 (aj.1 hx).1 H3
theorem Cd (H:aD (dA d x::F) h):aD (dA ⟨d.name,d.now,d.now,d.pend⟩ ⟨x.na,x.nc,x.na,x.nc,x.pa,x.pc⟩::F) h:=by
 have H2:=aD.dup (qC _ _) H.open
 exact aD.shut (m:=[kF x.na (d.now.flatMap cA),kF x.na (d.now.flatMap cA),kF x.pa (d.pend.flatMap oW)]) (H2.ordT 4 [0,1,3])
theorem Eh (H:aD (dA d x::F) h):aD (dA ⟨d.name,d.now,d.base,[]⟩ ⟨x.na,x.nc,x.ba,x.bc,none,0⟩::F) h:=by
 have H2:=H.open
 have H3:=kg (H2.ordT 3 [0,1])
 exact aD.shut (m:=[kF x.na (d.now.flatMap cA),kF x.ba (d.base.flatMap cA),kF none []]) (H3.ordT 3 [1,2,0])
theorem pz {K:Heap→Prop} (hq:q.qs.length=A.dirs.length) (hd:A.dirs[i]? = some d) (hx:q.qs[i]? = some x) (H:gD m A q F h)
  (hK:∀ h',aD (bp m (A.setDir i fun d=>{ d with base:=d.now,pend:=[] })::F) h'→K h') :
  aR q.da A.dirs.length (i:Int) 4 fun a3=>bz h ((a3.add 2).add 0) (.slice x.na d.now.length x.nc) fun h_3=>
   Ld h_3 ((⟨m,0,none⟩:Addr).add 5) fun v3=>aT v3 fun x5a x5l x5c=>aR x5a x5l (i:Int) 4 fun a5=>bz h_3 ((a5.add 3).add 0) (.slice none 0 0) K:=by
 have K1:=pH (d':=⟨d.name,d.now,d.now,d.pend⟩) (x':=⟨x.na,x.nc,x.na,x.nc,x.pa,x.pc⟩) hd hx (fun F' H'=>Cd H') (H.mv 3)
 refine lv (m:=m) (d':=⟨d.name,d.now,d.now,d.pend⟩) (x':=⟨x.na,x.nc,x.na,x.nc,x.pa,x.pc⟩) hq hd hx (by decide) rfl (K1.ordT 4 [1,2,3,0]) fun h3 H3=>?_
 have hd2:=ik (y:=(⟨d.name,d.now,d.now,d.pend⟩:AF.cG)) hd
 have hx2:=ik (y:=(⟨x.na,x.nc,x.na,x.nc,x.pa,x.pc⟩:g4)) hx
 have hq2:(q.qs.set i (⟨x.na,x.nc,x.na,x.nc,x.pa,x.pc⟩:g4)).length=(A.dirs.set i (⟨d.name,d.now,d.now,d.pend⟩:AF.cG)).length:=by rw [length_set,length_set,hq]
 generalize hA3:({ A with dirs:=A.dirs.set i (⟨d.name,d.now,d.now,d.pend⟩:AF.cG) }:AF.FS)=A3 at H3
 generalize hQ3:({ q with qs:=q.qs.set i (⟨x.na,x.nc,x.na,x.nc,x.pa,x.pc⟩:g4) }:iI)=q3 at H3
 have hd4:A3.dirs[i]? = some ⟨d.name,d.now,d.now,d.pend⟩:=by rw [← hA3]; exact hd2
 have hx4:q3.qs[i]? = some ⟨x.na,x.nc,x.na,x.nc,x.pa,x.pc⟩:=by rw [← hQ3]; exact hx2
 have hq4:q3.qs.length=A3.dirs.length:=by rw [← hA3,← hQ3]; exact hq2
 refine bH (a:=q3.da) (l:=A3.dirs.length) (m:=q3.dc) H3 rfl ?_
 have K2:=pH (A:=A3) (q:=q3) (d':=⟨d.name,d.now,d.now,[]⟩) (x':=⟨x.na,x.nc,x.na,x.nc,none,0⟩) hd4 hx4 (fun F' H'=>Eh H') (H3.mv 3)
 refine lv (A:=A3) (q:=q3) (m:=m) (d':=⟨d.name,d.now,d.now,[]⟩) (x':=⟨x.na,x.nc,x.na,x.nc,none,0⟩) hq4 hd4 hx4 (by decide) rfl (K2.ordT 4 [1,2,3,0]) fun h4 H4=>hK h4 ?_
 have eA:({ A3 with dirs:=A3.dirs.set i (⟨d.name,d.now,d.now,[]⟩:AF.cG) }:AF.FS)=A.setDir i fun d=>{ d with base:=d.now,pend:=[] }:=by
  rw [← hA3];unfold AF.FS.setDir;dsimp only;rw [set_set,dw (fun d=>{ d with base:=d.now,pend:=[] }) hd]
 unfold gD at H4
 rw [eA] at H4
 refine dH (q:={ q3 with qs:=q3.qs.set i (⟨x.na,x.nc,x.na,x.nc,none,0⟩:g4) }) ?_ H4
 rw [← eA]
 show (q3.qs.set i _).length=(A3.dirs.set i _).length
 rw [length_set,length_set,hq4]
theorem oB (W:A.WF) (hs:A.steps<1099511627776) (H:aD (bp m A::F) h) :
  aC prog 79 [aI m,.string dir] h fun v h'=>v=.int .i64 ((A.syncDir dir).2:Int)∧aD (bp m (A.syncDir dir).1::F) h':=by
 apply EZ.ap
 unfold KA
 have hfew:=W.few
 refine (i9 (by omega) H).mono ?_
 rintro v h1 ⟨rfl,rfl⟩
 rw [m7]
 cases hr:A.ready dir [] with
 | error e=>
   have eA:A.syncDir dir=(A,e):=by unfold AF.FS.syncDir; rw [hr]
   refine ⟨_,_,rfl,?_⟩;rw [bo (hZ hr),ab,eA];exact ⟨rfl,H⟩
 | ok i=>
   obtain ⟨_,_,_,_,d,hd,_⟩:=AF.dD hr;have eA:A.syncDir dir=A.step fun g=>g.setDir i fun d=>{ d with base:=d.now,pend:=[] }:=by unfold AF.FS.syncDir; rw [hr]
   rw [eA];refine ⟨_,_,rfl,?_⟩;rw [show ((0:Int)!=0)=false from rfl,aa];refine (kE W hs H).mono ?_;rintro v h2 (⟨hfu,rfl,H2⟩ | ⟨hfu,rfl,H2⟩)
   · rw [aJ,show ((60:Int)==0)=false from rfl,aa,jd hfu];exact ⟨rfl,H2⟩
   · rw [aJ,show ((0:Int)==0)=true from rfl,ab,g8 hfu];obtain ⟨q,hq,H3⟩:=bS H2;have hd2:A.stepOn.dirs[i]? = some d:=hd;obtain ⟨x,hx,_⟩:=dg hq hd2 (H3.mv 3 |>.mv 3);simp only [aY];refine bH (a:=q.da) (l:=A.stepOn.dirs.length) (m:=q.dc) H3 rfl ?_;refine bH (a:=q.da) (l:=A.stepOn.dirs.length) (m:=q.dc) H3 rfl ?_;refine cp (A:=A.stepOn) hq hd2 hx H3 fun b hc=>rR (hc 1 _ rfl) ?_;exact pz (A:=A.stepOn) hq hd2 hx H3 fun h' H'=>⟨rfl,H'⟩
theorem wI {k:ByteArray} (W:A.WF) (hs:A.steps<1099511627776) (H:aD (bp m A::F) h) :
  aC prog 80 [aI m,.string dir,.string name,.string k] h fun v h'=>v=.int .i64 ((A.rename dir name k).2:Int)∧aD (bp m (A.rename dir name k).1::F) h':=by
 apply EX.ap
 unfold Ky
 have hfew:=W.few
 refine (i9 (by omega) H).mono ?_
 rintro v h1 ⟨rfl,rfl⟩
 cases hr:A.ready dir [name,k] with
 | error e=>
   have eA:A.rename dir name k=(A,e):=by unfold AF.FS.rename; rw [hr]
   refine ⟨_,_,rfl,?_⟩;rw [bo (hZ hr),ab,eA];exact ⟨rfl,H⟩
 | ok i=>
   obtain ⟨_,_,_,_,d,hd,_⟩:=AF.dD hr;have eA:A.rename dir name k=if (AF.of d.now name).isNone then (A,62) else A.step fun g=>g.did i (.rename name k):=by unfold AF.FS.rename; rw [hr]; dsimp only; rw [AF.jz hd]
   rw [eA];refine ⟨_,_,rfl,?_⟩;rw [show ((0:Int)!=0)=false from rfl,aa];obtain ⟨q,hq,H1⟩:=bS H;obtain ⟨x,hx,_⟩:=dg hq hd (H1.mv 3 |>.mv 3);have hnl:=(W.each d (ai hd)).ok.few;simp only [aY];refine bH (a:=q.da) (l:=A.dirs.length) (m:=q.dc) H1 rfl ?_;refine cp hq hd hx H1 fun b hc=>rR (hc 1 _ rfl) ?_;refine (i8 (fE hq hd hx H1).1 rfl (by omega)).mono ?_;rintro v h2 ⟨rfl,rfl⟩;rw [aJ]
   cases ho:AF.of d.now name with
   | none=>
     rw [show yF none = -1 from rfl,af (by decide),ab];exact ⟨rfl,H⟩
   | some y=>
     rw [show yF (some y)=(y:Int) from rfl,ae (by omega),aa];refine (pq (o:=.rename name k) rfl W hs hd (by show (AF.of d.now name).isSome=true; rw [ho]; rfl) H).mono ?_;rintro v h3 ⟨rfl,H3⟩;rw [aJ];exact ⟨rfl,H3⟩
theorem oA (W:A.WF) (hs:A.steps<1099511627776) (H:aD (bp m A::F) h) :
  aC prog 81 [aI m,.string dir,.string name] h fun v h'=>v=.int .i64 ((A.remove dir name).2:Int)∧aD (bp m (A.remove dir name).1::F) h':=by
 apply EW.ap
 unfold Kw
 refine (mC W H).mono ?_
 rintro v h1 ⟨rfl,rfl⟩
 cases he:A.entry dir name with
 | error e=>
   have eA:A.remove dir name=(A,e):=by unfold AF.FS.remove; rw [he]
   refine ⟨_,_,_,rfl,?_⟩;rw [bo (entry_err he),ab,eA];exact ⟨rfl,H⟩
 | ok p=>
   obtain ⟨i,k⟩:=p;obtain ⟨d,y,hd,_,_,hy,_⟩:=jt W he;have eA:A.remove dir name=A.step fun g=>g.did i (.remove name):=by unfold AF.FS.remove; rw [he]
   rw [eA];refine ⟨_,_,_,rfl,?_⟩;rw [show ((0:Int)!=0)=false from rfl,aa];refine (pq (o:=.remove name) rfl W hs hd trivial H).mono ?_;rintro v h3 ⟨rfl,H3⟩;rw [aJ];exact ⟨rfl,H3⟩
theorem qG {y:AF.dy} {cs:Array Value} {K:Heap→Prop} (hcs:cs.toList=lP y) (hm:A.files.length<1099511627776) (H:gD m A q F h)
  (hK:∀ fa fc h',gD m { A with files:=A.files++[y] } { q with fa:=fa,fc:=fc } F h'→K h') :
  Al h (.cells cs 206) fun b0 h_3=>aX prog (append_ #[121,121] 121 #[.slice q.fa A.files.length q.fc,.slice (some (Addr.mk b0 0 none)) 1 1]) h_3 fun r4 h_4=>aT r4 fun x9a x9l x9c=>bz h_4 (((⟨m,0,none⟩:Addr).add 4).add 0) (.slice x9a x9l x9c) K:=by
 refine iL (f:=lP) (x:=y) (xs:=A.files) LR GM GY kW (wl y) hcs rfl (by omega) (H.mv 1) fun a' c' h2 H2=>?_
 rw [aV]
 refine bQ (c':=f9 { A with files:=A.files++[y] } { q with fa:=a',fc:=c' }) (H2.mv 1) (by show 4<6; decide) (by
  show _=(#[.int .i64 (A.room:Int),.int .i64 (A.steps:Int),.int .i64 (eZ A.fuse),.bool A.off,.slice a' (A.files++[y]).length c',.slice q.da A.dirs.length q.dc]:Array Value)
  rw [am,length_singleton]
  rfl) fun h3 H3=>hK a' c' h3 ?_
 have e:A.files.length+1=(A.files++[y]).length:=by rw [am,length_singleton]
 rw [e] at H3
 exact H3
theorem wL (W:A.WF) (hs:A.steps<1099511627776) (hm:A.files.length<1099511627776) (H:aD (bp m A::F) h) :
  aC prog 76 [aI m,.string dir,.string name] h fun v h'=>v=.int .i64 ((A.create dir name).2:Int)∧aD (bp m (A.create dir name).1::F) h':=by
 apply E2.ap
 unfold KD
 have hfew:=W.few
 refine (i9 (by omega) H).mono ?_
 rintro v h1 ⟨rfl,rfl⟩
 rw [sC]
 cases hr:A.ready dir [name] with
 | error e=>
   have eA:A.create dir name=(A,e):=by unfold AF.FS.create; rw [hr]
   refine ⟨_,_,rfl,?_⟩;rw [bo (hZ hr),ab,eA];exact ⟨rfl,H⟩
 | ok i=>
   obtain ⟨_,_,_,_,d,hd,_⟩:=AF.dD hr;have eA:A.create dir name=if (AF.of d.now name).isSome then (A,63) else if 4096≤d.now.length then (A,66) else A.step fun g=>AF.FS.did { g with files:=g.files++[⟨[],0⟩] } i (.create name g.files.length):=by unfold AF.FS.create; rw [hr]; dsimp only; rw [AF.jz hd]
   rw [eA];refine ⟨_,_,rfl,?_⟩;rw [show ((0:Int)!=0)=false from rfl,aa];obtain ⟨q,hq,H1⟩:=bS H;obtain ⟨x,hx,_⟩:=dg hq hd (H1.mv 3 |>.mv 3);have hnl:=(W.each d (ai hd)).ok.few;simp only [aY];refine bH (a:=q.da) (l:=A.dirs.length) (m:=q.dc) H1 rfl ?_;refine cp hq hd hx H1 fun b hc=>rR (hc 1 _ rfl) ?_;refine (i8 (fE hq hd hx H1).1 rfl (by omega)).mono ?_;rintro v h2 ⟨rfl,rfl⟩;rw [aJ]
   cases ho:AF.of d.now name with
   | some y=>
     rw [show yF (some y)=(y:Int) from rfl,af (by omega),ab];exact ⟨rfl,H⟩
   | none=>
     rw [show yF none = -1 from rfl,ae (by decide),aa];simp only [Option.isSome_none,Bool.false_eq_true,if_false];refine bH (a:=q.da) (l:=A.dirs.length) (m:=q.dc) H1 rfl ?_;refine cp hq hd hx H1 fun b hc=>rR (hc 1 _ rfl) ?_;by_cases c1:4096≤d.now.length
     · rw [af (show ((d.now.length:Int)≥4096) by omega),ab,al c1];exact ⟨rfl,H⟩
     · rw [ae (show ¬ ((d.now.length:Int)≥4096) by omega),aa,ak c1];refine bH (a:=q.fa) (l:=A.files.length) (m:=q.fc) H1 rfl ?_;refine (pq (o:=.create name A.files.length) rfl W hs hd trivial H).mono ?_;rintro v h3 ⟨rfl,H3⟩;rw [aJ];by_cases hfu:A.fuse=some 0
       · rw [jd hfu] at H3 ⊢;rw [jd hfu];rw [show (((60:Nat):Int)==0)=false from rfl,aa];exact ⟨rfl,H3⟩
       · rw [g8 hfu] at H3 ⊢;rw [g8 hfu];rw [show (((0:Nat):Int)==0)=true from rfl,ab];obtain ⟨q2,hq2,H4⟩:=bS H3;refine bH (a:=q2.fa) (l:=A.files.length) (m:=q2.fc) H4 rfl ?_;exact qG (A:=A.stepOn.did i (.create name A.files.length)) (y:=⟨[],0⟩) rfl hm H4 fun fa fc h' H'=>⟨rfl,dH (q:={ q2 with fa:=fa,fc:=fc }) hq2 H'⟩
end
theorem Be:prog.underlying 122=some (.slice 158):=by kernel_rfl
theorem qr:fS prog 122=true:=by kernel_rfl
theorem q7:jY prog 158 4 88=true:=by kernel_rfl
theorem jv (p:AF.cG×g4):∀ u∈fN p,u.oneCell'=true:=by
 intro u hu
 simp [fN] at hu
 rcases hu with rfl | rfl | rfl | rfl <;> rfl
abbrev uX:=AF.cG×g4
def fR (e:uX):List uX→List uX
 | []=>[e]
 | p::l=>if AF.jn e.1.name p.1.name then e::p::l else p::fR e l
theorem wa (e:uX):∀ l:List uX,(fR e l).map (·.1)=AF.dd e.1 (l.map (·.1))
 | []=>rfl
 | p::l=>by
   rw [fR,map_cons,AF.dd];split
   · rfl
   · rw [map_cons,wa e l]
theorem sX (e:uX):∀ l:List uX,(fR e l).Perm (e::l)
 | []=>.refl _
 | p::l=>by
   rw [fR];split
   · exact .refl _
   · exact ((sX e l).cons p).trans (.swap _ _ _)
theorem pb (e:uX) {l2:List uX}:∀ {l1:List uX},(∀ p∈l1,AF.jn e.1.name p.1.name=false)→fR e (l1++l2)=l1++fR e l2
 | [],_=>rfl
 | p::l,h=>by
   rw [cons_append,fR,ak (by rw [h p (by simp)]; simp),pb e fun q hq=>h q (by simp [hq])]
   rfl
theorem pw:∀ l:List uX,(l.map (·.1)).zip (l.map (·.2))=l
 | []=>rfl
 | p::l=>by rw [map_cons,map_cons,List.zip_cons_cons,pw l]
theorem DY {ds:List AF.cG} {qs:List g4} (h:qs.length=ds.length):(ds.zip qs).map (·.1)=ds:=by
 rw [List.map_fst_zip]
 omega
theorem mN:∀ (l:List uX),zipWith dA (l.map (·.1)) (l.map (·.2))=l.map fun p=>dA p.1 p.2
 | []=>rfl
 | p::l=>by rw [map_cons,map_cons,zipWith_cons_cons,mN l]; rfl
theorem vd (ds:List AF.cG) (qs:List g4):zipWith dA ds qs=(ds.zip qs).map fun p=>dA p.1 p.2:=by
 rw [zip_eq_zipWith,List.map_zipWith]
theorem J0 (a b:ByteArray):(!(ls a b||cv a b))=AF.jn b a:=by
 rw [AF.nJ,eM]
 by_cases e:a=b
 · rw [af e,Bool.or_true,az]
   cases hl:AF.jn b a with
   | false=>rfl
   | true=>rw [e] at hl; exact absurd hl (AF.cX _)
 · rw [ae e,Bool.or_false]
   cases hl:AF.jn a b with
   | true=>
     cases hr:AF.jn b a with
     | false=>rfl
     | true=>exact absurd (AF.gL hl hr) (AF.cX _)
   | false=>
     rw [AF.jE e (by rw [hl]; simp)]
     rfl
section
variable {m i:Nat} {A:AF.FS} {q:iI} {d d':AF.cG} {x x':g4} {F:List aE} {h:Heap} {dir name:ByteArray}
theorem wM (W:A.WF) (hs:A.steps<1099511627776) (H:aD (bp m A::F) h) :
  aC prog 75 [aI m,.string dir] h fun v h'=>v=.int .i64 ((A.mkdir dir).2:Int)∧aD (bp m (A.mkdir dir).1::F) h':=by
 apply E3.ap
 unfold KE
 have hfew:=W.few
 refine (i9 (by omega) H).mono ?_
 rintro v h1 ⟨rfl,rfl⟩
 rw [m7]
 cases hr:A.ready dir [] with
 | ok i=>
   have eA:A.mkdir dir=(A,63):=by unfold AF.FS.mkdir; rw [hr]
   refine ⟨_,_,rfl,?_⟩;rw [show ((0:Int)==0)=true from rfl,ab,eA];exact ⟨rfl,H⟩
 | error e=>
   have e0:=hZ hr;have eA:A.mkdir dir=if e=61 then (if 64≤A.dirs.length then (A,66) else A.step fun g=>{ g with dirs:=AF.dd ⟨dir,[],[],[]⟩ g.dirs }) else (A,e):=by unfold AF.FS.mkdir; rw [hr]
   rw [eA];refine ⟨_,_,rfl,?_⟩;rw [om e0,aa];by_cases h61:e=61
   · subst h61;rw [show (((61:Nat):Int)!=61)=false from rfl,aa,al rfl];obtain ⟨q,hq,H1⟩:=bS H;simp only [aY];refine bH (a:=q.da) (l:=A.dirs.length) (m:=q.dc) H1 rfl ?_;by_cases c1:64≤A.dirs.length
     · rw [af (show ((A.dirs.length:Int)≥64) by omega),ab,al c1];exact ⟨rfl,H⟩
     rw [ae (show ¬ ((A.dirs.length:Int)≥64) by omega),aa,ak c1];refine (kE W hs H).mono ?_;rintro v h2 (⟨hfu,rfl,H2⟩ | ⟨hfu,rfl,H2⟩)
     · rw [aJ,show ((60:Int)!=0)=true from rfl,ab,jd hfu];exact ⟨rfl,H2⟩
     rw [aJ,show ((0:Int)!=0)=false from rfl,aa,g8 hfu];clear H1 hq q;obtain ⟨q,hq,H3⟩:=bS H2;have hdl:A.stepOn.dirs.length=A.dirs.length:=rfl;have hzl:(A.dirs.zip q.qs).length=A.dirs.length:=iR (A:=A) hq;generalize hzs:A.dirs.zip q.qs=zs at hzl
     let e0:uX:=(⟨dir,[],[],[]⟩,⟨none,0,none,0,none,0⟩)
     have hrz:∀ {h':Heap} {G:List aE},gD m A.stepOn q G h'→dF h' q.da (zs.flatMap fN):=fun H'=>by
      have:=aH (H'.mv 2);rw [← hzs];exact this
     have fin:∀ (oa:Option Addr) (oc:Nat) (h':Heap),aD (aL 158 4 oa (fR e0 zs).length oc ((fR e0 zs).flatMap fN)::pt m (.cells (f9 A.stepOn q) 124 (0,0))::cT A.stepOn q::eE A.stepOn q::cD A.stepOn q::F) h'→
      bz h' (((⟨m,0,none⟩:Addr).add 5).add 0) (.slice oa (fR e0 zs).length oc) fun h_14=>(fun v h'=>v=Value.int .i64 ((({ A.stepOn with dirs:=AF.dd ⟨dir,[],[],[]⟩ A.stepOn.dirs }:AF.FS),0).2:Int)∧aD (bp m (({ A.stepOn with dirs:=AF.dd ⟨dir,[],[],[]⟩ A.stepOn.dirs }:AF.FS),0).1::F) h') (.int .i64 0) h_14:=by
      intro oa oc h' H';have hfst:(fR e0 zs).map (·.1)=AF.dd ⟨dir,[],[],[]⟩ A.stepOn.dirs:=by
       rw [wa,← hzs,DY (ds:=A.dirs) hq]
       rfl
      have hlen:(fR e0 zs).length=(AF.dd ⟨dir,[],[],[]⟩ A.stepOn.dirs).length:=by rw [← hfst,an]
      rw [aV];refine bQ (c':=f9 { A.stepOn with dirs:=AF.dd ⟨dir,[],[],[]⟩ A.stepOn.dirs } { q with da:=oa,dc:=oc,qs:=(fR e0 zs).map (·.2) }) (H'.mv 1) (by show 5<6; decide) (by rw [hlen]; rfl) fun h3 H4=>?_;refine ⟨rfl,dH (q:={ q with da:=oa,dc:=oc,qs:=(fR e0 zs).map (·.2) }) (by show ((fR e0 zs).map (·.2)).length=_; rw [an,hlen]) ?_⟩;have conv:∀ (P:aE),aD (P::aL 158 4 oa (fR e0 zs).length oc ((fR e0 zs).flatMap fN)::cT A.stepOn q::eE A.stepOn q::cD A.stepOn q::F) h3→
       aD (P::cT A.stepOn q::aL 158 4 oa (fR e0 zs).length oc ((fR e0 zs).flatMap fN)::cr ((fR e0 zs).map fun p=>dA p.1 p.2)::F) h3:=by
       intro P HP;have H5:aD (cr (zs.map fun p=>dA p.1 p.2)::P::cT A.stepOn q::aL 158 4 oa (fR e0 zs).length oc ((fR e0 zs).flatMap fN)::F) h3:=by
        have:=HP.ordT 5 [4,0,2,1];unfold cD at this;rw [vd,show A.stepOn.dirs.zip q.qs=zs from hzs] at this;exact this
       have H6:aD (dA e0.1 e0.2::cr (zs.map fun p=>dA p.1 p.2)::P::cT A.stepOn q::aL 158 4 oa (fR e0 zs).length oc ((fR e0 zs).flatMap fN)::F) h3:=
        aD.shut (m:=[kF none [],kF none [],kF none []]) (kg (kg (kg H5)))
       have hperm:(dA e0.1 e0.2::zs.map fun p=>dA p.1 p.2).Perm ((fR e0 zs).map fun (p:uX)=>dA p.1 p.2):=((sX e0 zs).symm.map fun (p:uX)=>dA p.1 p.2)
       have H7:=sQ hperm H6.consMany;exact H7.ordT 4 [1,2,3,0]
      have H8:=conv _ H4
      have hzw:zipWith dA (AF.dd ⟨dir,[],[],[]⟩ A.stepOn.dirs) ((fR e0 zs).map (·.2))=(fR e0 zs).map fun p=>dA p.1 p.2:=by rw [← hfst,mN]
      have hzz:(AF.dd ⟨dir,[],[],[]⟩ A.stepOn.dirs).zip ((fR e0 zs).map (·.2))=fR e0 zs:=by rw [← hfst,pw]
      unfold cD eE;dsimp only;rw [hzw,hzz,← hlen];exact H8
     refine ⟨fun st hh=>∃ (i:Nat) (oa:Option Addr) (oc:Nat) (out:List uX) (dn:Bool),st=(⟨oa,out.length,oc⟩,dn,(i:Int))∧i≤zs.length∧out.length≤i+1∧((dn=false∧(∀ p∈zs.take i,AF.jn dir p.1.name=false)∧out=zs.take i)∨(dn=true∧out++zs.drop i=fR e0 zs))∧
      aD (aL 158 4 oa out.length oc (out.flatMap fN)::pt m (.cells (f9 A.stepOn q) 124 (0,0))::cT A.stepOn q::eE A.stepOn q::cD A.stepOn q::F) hh,
      fun st _=>((zs.length:Int) - st.2.2).toNat,⟨0,none,0,[],false,rfl,au _,au _,.inl ⟨rfl,by simp,rfl⟩,bE 158 4 H3⟩,?_⟩
     rintro st h3 ⟨i,oa,oc,out,dn,rfl,hi,hol,hcase,H4⟩;have R4:=H4.drop;refine bH (a:=q.da) (l:=A.dirs.length) (m:=q.dc) R4 rfl ?_;dsimp only;by_cases hlt:i<zs.length
     · rw [af (show ((i:Int)<(A.dirs.length:Int)) by omega),ab];obtain ⟨p,hp⟩:∃ p,zs[i]? = some p:=⟨_,ah hlt⟩
       have hdrop:zs.drop i=p::zs.drop (i+1):=by
        have h5:=(aj.1 hp)
        rw [drop_eq_getElem_cons h5.1,h5.2]
       have htk:zs.take (i+1)=zs.take i++[p]:=by rw [ax,hp]; rfl
       have wi:wrap .i64 ((i:Int)+1)=((i+1:Nat):Int):=aK (by omega);have hmeas:((zs.length:Int) - ((i+1:Nat):Int)).toNat<((zs.length:Int) - (i:Int)).toNat:=by omega
       have dcell:∀ {h':Heap} {G:List aE} {K:Addr→Prop},gD m A.stepOn q G h'→(∀ b,(∀ j v,(fN p)[j]? = some v→cz h' (b.add j)=some v)→K b)→aR q.da A.dirs.length (i:Int) 4 K:=fun H' hK=>
        fX cQ (by decide) (hrz H') hzl hp fun b hb hc=>hK _ hc
       rcases hcase with ⟨rfl,hall,rfl⟩ | ⟨rfl,hins⟩
       · rw [aA,ab];refine bH (a:=q.da) (l:=A.dirs.length) (m:=q.dc) R4 rfl ?_;refine dcell R4 fun b hc=>gm (hc 0 _ rfl) ?_;rw [J0]
         cases hgt:AF.jn dir p.1.name with
         | true=>
           rw [ab];have hin:fR e0 zs=zs.take i++(e0::p::zs.drop (i+1)):=by
            have e1:fR e0 zs=fR e0 (zs.take i++zs.drop i):=by rw [take_append_drop]
            rw [e1,pb e0 hall,hdrop,fR,al hgt]
           refine iL (f:=fN) (x:=e0) Be qr q7 cQ (jv e0) rfl rfl (by omega) H4 fun a1 c1 h4 H5=>?_;have R5:=H5.drop;refine bH (a:=q.da) (l:=A.dirs.length) (m:=q.dc) R5 rfl ?_;refine dcell R5 fun b hc=>⟨_,hc 0 _ rfl,_,hc 1 _ rfl,_,hc 2 _ rfl,_,hc 3 _ rfl,_,_,_,_,_,_,_,_,_,_,rfl,?_⟩
           refine iL (f:=fN) (x:=p) Be qr q7 cQ (jv p) rfl (by rw [am]; rfl) (by omega) H5 fun a2 c2 h5 H6=>?_;rw [wi];exact ⟨⟨i+1,a2,c2,zs.take i++[e0]++[p],true,by rw [am,am]; rfl,by omega,by
            have:(zs.take i).length=i:=by rw [aq]; omega
            rw [am,am,length_singleton,length_singleton]; omega,.inr ⟨rfl,by rw [hin,append_assoc,append_assoc]; rfl⟩,by rw [am,am]; exact H6⟩,hmeas⟩
         | false=>
           rw [aa];refine bH (a:=q.da) (l:=A.dirs.length) (m:=q.dc) R4 rfl ?_;refine dcell R4 fun b hc=>⟨_,hc 0 _ rfl,_,hc 1 _ rfl,_,hc 2 _ rfl,_,hc 3 _ rfl,_,_,_,_,_,_,_,_,_,_,rfl,?_⟩
           refine iL (f:=fN) (x:=p) Be qr q7 cQ (jv p) rfl rfl (by omega) H4 fun a2 c2 h5 H6=>?_;rw [wi];refine ⟨⟨i+1,a2,c2,zs.take (i+1),false,by rw [htk,am]; rfl,by omega,by rw [aq]; omega,.inl ⟨rfl,fun p' hp'=>?_,rfl⟩,by rw [htk,am]; exact H6⟩,hmeas⟩;rw [htk] at hp'
           rcases List.mem_append.1 hp' with hp' | hp'
           · exact hall p' hp'
           · rw [mem_singleton] at hp';rw [hp'];exact hgt
       · rw [az,aa];refine bH (a:=q.da) (l:=A.dirs.length) (m:=q.dc) R4 rfl ?_;refine dcell R4 fun b hc=>⟨_,hc 0 _ rfl,_,hc 1 _ rfl,_,hc 2 _ rfl,_,hc 3 _ rfl,_,_,_,_,_,_,_,_,_,_,rfl,?_⟩
         refine iL (f:=fN) (x:=p) Be qr q7 cQ (jv p) rfl rfl (by omega) H4 fun a2 c2 h5 H6=>?_;rw [wi];exact ⟨⟨i+1,a2,c2,out++[p],true,by rw [am]; rfl,by omega,by rw [am,length_singleton]; omega,.inr ⟨rfl,by rw [← hins,hdrop,append_assoc]; rfl⟩,by rw [am]; exact H6⟩,hmeas⟩
     · rw [ae (by omega),aa]
       rcases hcase with ⟨rfl,hall,rfl⟩ | ⟨rfl,hins⟩
       · rw [aA,ab];have et:zs.take i=zs:=ar (by omega);rw [et] at hall H4 hol ⊢;have hin:fR e0 zs=zs++[e0]:=by
          have:=pb e0 (l2:=[]) hall;rw [append_nil] at this;exact this
         refine iL (f:=fN) (x:=e0) Be qr q7 cQ (jv e0) rfl rfl (by omega) H4 fun a2 c2 h5 H6=>?_;have el:zs.length+1=(fR e0 zs).length:=by rw [hin,am,length_singleton]
         rw [el,← hin] at H6;rw [el];exact fin a2 c2 h5 H6
       · rw [az,aa];rw [drop_eq_nil_of_le (by omega),append_nil] at hins;subst hins;exact fin oa oc h3 H4
   · have:((e:Int)!=61)=true:=by rw [bne_iff_ne]; omega
     rw [this,ab,ak h61];exact ⟨rfl,H⟩
end
section
variable {m i:Nat} {A:AF.FS} {q:iI} {d d':AF.cG} {x x':g4} {F:List aE} {h:Heap} {dir name:ByteArray}
theorem CH {at_:Int} {turn:Nat} (W:A.WF) (ht:turn<256) (H:aD (bp m A::F) h) :
  aC prog 85 [aI m,.string dir,.string name,.int .i64 at_,.int .u8 (turn:Int)] h fun v h'=>v=.int .i64 ((A.spoil dir name at_ turn).2:Int)∧aD (bp m (A.spoil dir name at_ turn).1::F) h':=by
 apply ES.ap
 unfold Ks
 have hfew:=W.few
 refine (pp (by omega) H).mono ?_
 rintro v h1 ⟨rfl,rfl⟩
 rw [oY]
 cases hr:A.named dir [name] with
 | error e=>
   have eA:A.spoil dir name at_ turn=(A,e):=by unfold AF.FS.spoil; rw [hr]
   refine ⟨_,_,rfl,?_⟩;rw [bo (AF.sO hr),ab,eA];exact ⟨rfl,H⟩
 | ok i=>
   obtain ⟨_,_,d,hd,_⟩:=AF.nZ hr;have eA:A.spoil dir name at_ turn=match AF.of d.now name with
    | none=>(A,62)
    | some x=>if at_<0∨((A.X x).b.length:Int)≤at_ then (A,2) else (A.setFile x fun y=>{ y with b:=y.b.modify at_.toNat (· ^^^ turn) },0):=by
    unfold AF.FS.spoil;rw [hr];dsimp only;rw [AF.jz hd] <;> rfl
   rw [eA];refine ⟨_,_,rfl,?_⟩;rw [show ((0:Int)!=0)=false from rfl,aa];obtain ⟨q,hq,H1⟩:=bS H;obtain ⟨x,hx,_⟩:=dg hq hd (H1.mv 3 |>.mv 3);have hok:=(W.each d (ai hd)).ok;have hnl:=hok.few;simp only [aY];refine bH (a:=q.da) (l:=A.dirs.length) (m:=q.dc) H1 rfl ?_;refine cp hq hd hx H1 fun b hc=>rR (hc 1 _ rfl) ?_;refine (i8 (fE hq hd hx H1).1 rfl (by omega)).mono ?_;rintro v h2 ⟨rfl,rfl⟩;rw [aJ]
   cases ho:AF.of d.now name with
   | none=>
     rw [show yF none = -1 from rfl,af (by decide),ab];exact ⟨rfl,H⟩
   | some k=>
     rw [show yF (some k)=(k:Int) from rfl,ae (by omega),aa];dsimp only;by_cases h1:at_<0
     · rw [af h1,ab];simp only [h1,true_or,if_true];exact ⟨rfl,H⟩
     rw [ae h1,aa];have hkf:=(hok.each _ (AF.jW ho)).1;obtain ⟨y,hy⟩:∃ y,A.files[k]? = some y:=⟨_,ah hkf⟩
     have hyW:=W.files y (ai hy);have hyl:=km hyW.2.2;rw [AF.rA hy];refine bH (a:=q.fa) (l:=A.files.length) (m:=q.fc) H1 rfl ?_;refine dM hy H1 fun b e0 e1=>gm e0 ?_;rw [hyl];by_cases h2:((y.b.length:Nat):Int)≤at_
     · rw [af (show at_≥(y.b.length:Int) from h2),ab,al (.inr h2)];exact ⟨rfl,H⟩
     rw [ae (show ¬ at_≥(y.b.length:Int) from h2),aa,ak (by rintro (h | h); exact h1 h; exact h2 h)];obtain ⟨p,rfl⟩:∃ p:Nat,at_=(p:Int):=⟨at_.toNat,by omega⟩
     rw [Int.toNat_natCast];refine bH (a:=q.fa) (l:=A.files.length) (m:=q.fc) H1 rfl ?_;refine dM hy H1 fun b e0 e1=>gm e0 ?_;refine yV H1 (by rw [hyl]; unfold maxLen; omega) fun ba bc h3 H3=>?_;rw [aF];have esb:sb (bT y.b)=y.b:=bM hyW.2.2;rw [esb,hyl] at H3;rw [hyl];obtain ⟨n,hn⟩:∃ n,y.b[p]? = some n:=⟨_,ah (by omega)⟩
     have hn8:=hyW.2.2 n (ai hn);have hget:(y.b.map nv)[p]? = some (nv n):=by rw [getElem?_map,hn]; rfl
     refine cf (aH H3) (an ..) hget fun b1 hb1 hc1=>⟨_,hc1,_,rfl,?_⟩
     refine cf (aH H3) (an ..) hget fun b2 hb2 hc2=>?_;rw [GE hn8 ht,aV];rw [hb2] at H3;refine lA H3 (by rw [an]; omega) fun h4 H4=>?_;have eset:(y.b.map nv).set p (.int .u8 ((n ^^^ turn:Nat):Int))=(y.b.modify p (· ^^^ turn)).map nv:=by
      rw [dw (· ^^^ turn) hn,map_set]
      rfl
     rw [eset] at H4;have el:(y.b.modify p (· ^^^ turn)).length=y.b.length:=length_modify ..;have m8:B8 (y.b.modify p (· ^^^ turn)):=by
      intro k hk
      rcases AF.ie hk with hk | ⟨d,hd,rfl⟩
      · exact hyW.2.2 k hk
      · exact Nat.xor_lt_two_pow (n:=8) (hyW.2.2 d (ai hd)) ht
     refine bH (a:=q.fa) (l:=A.files.length) (m:=q.fc) H4.drop rfl ?_;refine ⟨bT (y.b.modify p (· ^^^ turn)),?_,?_⟩
     · rw [hb2];exact ct (aH H4) el m8
     · refine ki (A:=A) (m:=m) (y':={ y with b:=y.b.modify p (· ^^^ turn) }) hy (j:=0) (by decide) rfl H4.drop fun h5 H5=>?_;unfold gD at H5;rw [m4 (g:=fun y=>{ y with b:=y.b.modify p (· ^^^ turn) }) hy] at H5;exact ⟨rfl,dH (A:=A.setFile k fun y=>{ y with b:=y.b.modify p (· ^^^ turn) }) hq H5⟩
end
section
variable {m i:Nat} {A:AF.FS} {q:iI} {d d':AF.cG} {x x':g4} {F:List aE} {h:Heap} {dir name:ByteArray}
theorem pD {bs:ByteArray} {Q:Value→Heap→Prop} {hh:Heap} (W:A.WF) (hq:q.qs.length=A.dirs.length) (hd:A.dirs[i]? = some d) (hm:A.files.length<1099511627776) (H:gD m A q F hh)
  (hQ:∀ h',aD (bp m (A.planted i name (sb bs))::F) h'→Q (.int .i64 0) h') :
  aS (some ⟨m,0,none⟩) fun a18=>
  Ld hh (a18.add 4) fun v14=>aT v14 fun x19a x19l x19c=>
  Al hh (.cells #[.string bs,.int .i64 ((bs:ByteArray).size:Int)] 206) fun b2 h_13=>
  aX prog (append_ #[121,121] 121 #[.slice x19a x19l x19c,.slice (some (Addr.mk b2 0 none)) 1 1]) h_13 fun r10 h_14=>
  aT r10 fun x20a x20l x20c=>
  aS (some ⟨m,0,none⟩) fun a19=>
  bz h_14 ((a19.add 4).add 0) (.slice x20a x20l x20c) fun h_16=>
  aS (some ⟨m,0,none⟩) fun a20=>
  Ld h_16 (a20.add 5) fun v15=>aT v15 fun x21a x21l x21c=>
  aS (some ⟨m,0,none⟩) fun a21=>
  Ld h_16 (a21.add 5) fun v16=>aT v16 fun x22a x22l x22c=>
  aR x22a x22l (i:Int) 4 fun a22=>
  Ld h_16 (a22.add 1) fun v17=>aT v17 fun x23a x23l x23c=>
  aS (some ⟨m,0,none⟩) fun a23=>
  Ld h_16 (a23.add 4) fun v18=>aT v18 fun x24a x24l x24c=>
  aC prog 140 [.slice x23a x23l x23c,.string name,.int .i64 (wrap .i64 ((x24l:Int) - 1))] h_16 fun r12 h_17=>
  aT r12 fun x25a x25l x25c=>
  (aG (some (.pointer (some ⟨m,0,none⟩))) (.pointer (some ⟨m,0,none⟩)))∧
  (aS (some ⟨m,0,none⟩) fun a24=>
  aG (some (.pointer (some a20))) (.pointer (some a24)))∧
  (aG (some (.pointer (some (a20.add 5)))) (.pointer (some (a20.add 5))))∧
  (Ld h_17 (a20.add 5) fun v19=>aT v19 fun x26a x26l x26c=>
  aG (some (.slice x21a x21l x21c)) (.slice x26a x26l x26c))∧
  (aG (some (.int .i64 (i:Int))) (.int .i64 (i:Int)))∧
  aR x21a x21l (i:Int) 4 fun a25=>
  bz h_17 ((a25.add 1).add 0) (.slice x25a x25l x25c) fun h_19=>
  aS (some ⟨m,0,none⟩) fun a26=>
  Ld h_19 (a26.add 5) fun v20=>aT v20 fun x27a x27l x27c=>
  aS (some ⟨m,0,none⟩) fun a27=>
  Ld h_19 (a27.add 5) fun v21=>aT v21 fun x28a x28l x28c=>
  aR x28a x28l (i:Int) 4 fun a28=>
  Ld h_19 (a28.add 1) fun v22=>aT v22 fun x29a x29l x29c=>
  aR x27a x27l (i:Int) 4 fun a29=>
  bz h_19 ((a29.add 2).add 0) (.slice x29a x29l x29c) fun h_21=>
  aS (some ⟨m,0,none⟩) fun a30=>
  Ld h_21 (a30.add 5) fun v23=>aT v23 fun x30a x30l x30c=>
  aR x30a x30l (i:Int) 4 fun a31=>
  bz h_21 ((a31.add 3).add 0) (.slice none 0 0) fun h_23=>
  Q (.int .i64 0) h_23:=by
 simp only [aY]
 obtain ⟨x,hx,_⟩:=dg hq hd (H.mv 3 |>.mv 3)
 have hok:=(W.each d (ai hd)).ok
 have hnl:=hok.few
 have hsl:=bd bs
 refine bH (a:=q.fa) (l:=A.files.length) (m:=q.fc) H rfl ?_
 refine qG (A:=A) (q:=q) (m:=m) (y:=⟨sb bs,(sb bs).length⟩) (by show [Value.string bs,.int .i64 (bs.size:Int)]=[Value.string (bT (sb bs)),.int .i64 (((sb bs).length:Nat):Int)]; rw [uu,hsl]) hm H fun fa fc h2 H2=>?_
 have hfl:({ A with files:=A.files++[⟨sb bs,(sb bs).length⟩] }:AF.FS).files.length=A.files.length+1:=by show (A.files++[_]).length=_; rw [am,length_singleton]
 generalize hA1:({ A with files:=A.files++[⟨sb bs,(sb bs).length⟩] }:AF.FS)=A1 at H2 hfl
 generalize hq1e:({ q with fa:=fa,fc:=fc }:iI)=q1 at H2
 have hd1:A1.dirs[i]? = some d:=by rw [← hA1]; exact hd
 have hx1:q1.qs[i]? = some x:=by rw [← hq1e]; exact hx
 have hq1:q1.qs.length=A1.dirs.length:=by rw [← hA1,← hq1e]; exact hq
 refine bH (a:=q1.da) (l:=A1.dirs.length) (m:=q1.dc) H2 rfl ?_
 refine bH (a:=q1.da) (l:=A1.dirs.length) (m:=q1.dc) H2 rfl ?_
 refine cp hq1 hd1 hx1 H2 fun b hc=>rR (hc 1 _ rfl) ?_
 refine bH (a:=q1.fa) (l:=A1.files.length) (m:=q1.fc) H2 rfl ?_
 have w:wrap .i64 ((A1.files.length:Int) - 1)=(A.files.length:Int):=by rw [hfl,IntWalk.i64_in _ (by omega)]; omega
 rw [w]
 refine (po hok.up (fun h' hh=>(fE hq1 hd1 hx1 hh).1) rfl (by omega) H2).mono ?_
 rintro v h3 ⟨na,nc,rfl,H3⟩
 rw [aF]
 refine ⟨rfl,rfl,rfl,bH (a:=q1.da) (l:=A1.dirs.length) (m:=q1.dc) (H3.mv 1) rfl rfl,rfl,?_⟩
 have K1:=sS (c':=nc) hd1 hx1 ((qD H3).ordT 5 [4,0,1,2,3])
 refine lv (A:=A1) (q:=q1) (m:=m) (d':=(⟨d.name,AF.ins name A.files.length d.now,d.base,d.pend⟩:AF.cG)) (x':=(⟨na,nc,x.ba,x.bc,x.pa,x.pc⟩:g4)) hq1 hd1 hx1 (by decide) rfl (K1.ordT 4 [1,2,3,0]) fun h4 H4=>?_
 have hd2:=ik (y:=(⟨d.name,AF.ins name A.files.length d.now,d.base,d.pend⟩:AF.cG)) hd1
 have hx2:=ik (y:=(⟨na,nc,x.ba,x.bc,x.pa,x.pc⟩:g4)) hx1
 have hq2:(q1.qs.set i (⟨na,nc,x.ba,x.bc,x.pa,x.pc⟩:g4)).length=(A1.dirs.set i (⟨d.name,AF.ins name A.files.length d.now,d.base,d.pend⟩:AF.cG)).length:=by rw [length_set,length_set,hq1]
 generalize hA3:({ A1 with dirs:=A1.dirs.set i (⟨d.name,AF.ins name A.files.length d.now,d.base,d.pend⟩:AF.cG) }:AF.FS)=A3 at H4
 generalize hQ3:({ q1 with qs:=q1.qs.set i (⟨na,nc,x.ba,x.bc,x.pa,x.pc⟩:g4) }:iI)=q3 at H4
 have hd4:A3.dirs[i]? = some ⟨d.name,AF.ins name A.files.length d.now,d.base,d.pend⟩:=by rw [← hA3]; exact hd2
 have hx4:q3.qs[i]? = some ⟨na,nc,x.ba,x.bc,x.pa,x.pc⟩:=by rw [← hQ3]; exact hx2
 have hq4:q3.qs.length=A3.dirs.length:=by rw [← hA3,← hQ3]; exact hq2
 refine bH (a:=q3.da) (l:=A3.dirs.length) (m:=q3.dc) H4 rfl ?_
 refine bH (a:=q3.da) (l:=A3.dirs.length) (m:=q3.dc) H4 rfl ?_
 refine cp hq4 hd4 hx4 H4 fun b hc=>rR (hc 1 _ rfl) ?_
 refine pz (A:=A3) (q:=q3) hq4 hd4 hx4 H4 fun h' H'=>hQ h' ?_
 have eA:(A3.setDir i fun d=>{ d with base:=d.now,pend:=[] })=A.planted i name (sb bs):=by
  rw [← hA3,← hA1];unfold AF.FS.planted AF.FS.setDir;dsimp only;rw [dw (fun d=>{ d with base:=d.now,pend:=[] }) (ik hd),set_set,dw (fun d:AF.cG=>{ d with now:=AF.ins name A.files.length d.now,base:=AF.ins name A.files.length d.now,pend:=[] }) hd]
 rw [eA] at H'
 exact H'
theorem CG {bs:ByteArray} (W:A.WF) (hm:A.files.length<1099511627776) (H:aD (bp m A::F) h) :
  aC prog 86 [aI m,.string dir,.string name,.string bs] h fun v h'=>v=.int .i64 ((A.plant dir name (sb bs)).2:Int)∧aD (bp m (A.plant dir name (sb bs)).1::F) h':=by
 apply ER.ap
 unfold Kr
 have hfew:=W.few
 have hsl:=bd bs
 refine (pp (by omega) H).mono ?_
 rintro v h1 ⟨rfl,rfl⟩
 rw [oY]
 cases hr:A.named dir [name] with
 | error e=>
   have eA:A.plant dir name (sb bs)=(A,e):=by unfold AF.FS.plant; rw [hr]
   refine ⟨_,_,rfl,?_⟩;rw [bo (AF.sO hr),ab,eA];exact ⟨rfl,H⟩
 | ok i=>
   obtain ⟨_,_,d,hd,_⟩:=AF.nZ hr;have eA:A.plant dir name (sb bs)=if 16777216<bs.size then (A,67) else if (AF.of d.now name).isNone∧4096≤d.now.length then (A,66) else (A.planted i name (sb bs),0):=by
    unfold AF.FS.plant;rw [hr];dsimp only;rw [AF.jz hd,hsl]
   rw [eA];refine ⟨_,_,rfl,?_⟩;rw [show ((0:Int)!=0)=false from rfl,aa];by_cases c1:16777216<bs.size
   · rw [af (show ((bs.size:Int)>16777216) by omega),ab,al c1];exact ⟨rfl,H⟩
   rw [ae (show ¬ ((bs.size:Int)>16777216) by omega),aa,ak c1];obtain ⟨q,hq,H1⟩:=bS H;obtain ⟨x,hx,_⟩:=dg hq hd (H1.mv 3 |>.mv 3);have hok:=(W.each d (ai hd)).ok;have hnl:=hok.few;rw [aY];refine bH (a:=q.da) (l:=A.dirs.length) (m:=q.dc) H1 rfl ?_;refine cp hq hd hx H1 fun b hc=>rR (hc 1 _ rfl) ?_;refine (i8 (fE hq hd hx H1).1 rfl (by omega)).mono ?_;rintro v h2 ⟨rfl,rfl⟩;rw [aJ]
   cases ho:AF.of d.now name with
   | none=>
     rw [show yF none = -1 from rfl,af (by decide),ab,aY];refine bH (a:=q.da) (l:=A.dirs.length) (m:=q.dc) H1 rfl ?_;refine cp hq hd hx H1 fun b hc=>rR (hc 1 _ rfl) ?_;by_cases c2:4096≤d.now.length
     · rw [af (show ((d.now.length:Int)≥4096) by omega),ab,al ⟨rfl,c2⟩];exact ⟨rfl,H⟩
     · rw [ae (show ¬ ((d.now.length:Int)≥4096) by omega),aa,ak (fun hh=>c2 hh.2)];exact pD (Q:=fun v h'=>v=.int .i64 (((A.planted i name (sb bs),0):AF.FS×Nat).2:Int)∧aD (bp m ((A.planted i name (sb bs),0):AF.FS×Nat).1::F) h') W hq hd hm H1 fun h' H'=>⟨rfl,H'⟩
   | some k=>
     rw [show yF (some k)=(k:Int) from rfl,ae (by omega),aa,ak (fun hh=>by cases hh.1)];exact pD (Q:=fun v h'=>v=.int .i64 (((A.planted i name (sb bs),0):AF.FS×Nat).2:Int)∧aD (bp m ((A.planted i name (sb bs),0):AF.FS×Nat).1::F) h') W hq hd hm H1 fun h' H'=>⟨rfl,H'⟩
end
section
variable {m i:Nat} {A:AF.FS} {q:iI} {d d':AF.cG} {x x':g4} {F:List aE} {h:Heap} {dir name:ByteArray}
theorem xd {ps:List Int} {a:Option Addr} {l c k:Nat} (hp:uR F ps a l c) (hk:k<9223372036854775807) :
  ∃ (a2:Option Addr) (l2 c2:Nat),uR F (AF.pick ps k).2 a2 l2 c2∧∀ h,aD F h→aC prog 137 [.slice a l c,.int .i64 (k:Int)] h fun v h'=>v=.tuple #[.int .i64 ((AF.pick ps k).1:Int),.slice a2 l2 c2]∧h'=h:=by
 cases ps with
 | nil=>
   have hl:l=0:=hp.len.symm;subst hl;refine ⟨a,0,c,hp,fun h hF=>?_⟩;apply w9.ap;unfold DN;exact ⟨rfl,rfl⟩
 | cons p ps=>
   have hl:=hp.len;have hcap:=hp.cap;rw [ao] at hl;refine ⟨jB a 1 c 1,l - 1,c - 1,⟨by show ps.length=l - 1; omega,by omega,fun h' hh=>?_⟩,fun h hF=>?_⟩
   · have:=(hp.read h' hh).sub 1 (l - 1) c (by omega);have e:((List.map iv (p::ps)).drop 1).take (l - 1)=ps.map iv:=by
      rw [map_cons,List.drop_one,List.tail_cons,ar (by rw [an]; omega)]
     rw [e] at this;exact this
   · apply w9.ap;unfold DN;rw [show (((l:Nat):Int)==0)=false by rw [beq_eq_false_iff_ne]; omega,aa];refine cf (i:=0) (v:=iv p) (hp.read h hF) (by rw [an,ao]; exact hl) rfl fun b hb hcell=>⟨_,hcell,_,rfl,?_⟩
     have w1:wrap .i64 ((k:Int)+1)=((k+1:Nat):Int):=aK hk;have w2:wrap .u64 ((k+1:Nat):Int)=((k+1:Nat):Int):=IntWalk.u64_in _ (by omega);rw [w1,w2];refine ⟨by omega,?_⟩;refine ir (lo:=1) (hi:=l) (mx:=c) (by omega) hcap (av _) ?_;have wp:wrap .u64 p=((wrap .u64 p).toNat:Int):=by
      rw [IntKind.wrap_u64];omega
     have hmod:=Nat.mod_lt (wrap .u64 p).toNat (show 0<k+1 by omega);refine ⟨?_,rfl⟩;rw [wp,jc,dt (by omega)]
     rfl
theorem j0 (ps:List Int) (i:Nat):(fG A ps i).length=A.dirs.length:=by
 unfold fG
 rw [am,AF.dx,aq,length_drop]
 omega
theorem zY (hd:A.dirs[i]? = some d) (hx:q.qs[i]? = some x) (H:aD (cD A q::F) h):aD (kF x.ba (d.base.flatMap cA)::cD A q::F) h:=by
 have H2:=iB H hd hx
 have H3:aD (kF x.na (d.now.flatMap cA)::kF x.ba (d.base.flatMap cA)::kF x.pa (d.pend.flatMap oW)::rZ dA A.dirs q.qs i::F) h:=H2.open
 have H4:=aD.dup (qC _ _) (H3.mv 1)
 have H5:aD (dA d x::rZ dA A.dirs q.qs i::kF x.ba (d.base.flatMap cA)::F) h:=aD.shut (m:=[kF x.na (d.now.flatMap cA),kF x.ba (d.base.flatMap cA),kF x.pa (d.pend.flatMap oW)]) (H4.ordT 5 [2,0,3,4,1])
 exact (sR hd hx H5).mv 1
theorem zy {l':AF.bG} {na:Option Addr} {nc:Nat} {K:Heap→Prop} (hq:q.qs.length=A.dirs.length) (hd:A.dirs[i]? = some d) (hx:q.qs[i]? = some x) (H:aD (kF na (l'.flatMap cA)::pt m (.cells (f9 A q) 124 (0,0))::cT A q::eE A q::cD A q::F) h)
  (hK:∀ h',gD m { A with dirs:=A.dirs.set i ⟨d.name,l',l',[]⟩ } { q with qs:=q.qs.set i ⟨na,nc,na,nc,none,0⟩ } F h'→K h') :
  aR q.da A.dirs.length (i:Int) 4 fun a11=>bz h (a11.add 0) (.string d.name) fun h_5=>bz h_5 (a11.add 1) (.slice na l'.length nc) fun h_6=>bz h_6 (a11.add 2) (.slice na l'.length nc) fun h_7=>bz h_7 (a11.add 3) (.slice none 0 0) K:=by
 have hz:(A.dirs.zip q.qs)[i]? = some (d,x):=by rw [zip_eq_zipWith,getElem?_zipWith,hd,hx]
 have hzl:i<(A.dirs.zip q.qs).length:=(aj.1 hz).1
 refine fX cQ (by decide) (aH (H.mv 3)) (iR hq) hz fun b hb _=>?_
 have K0:=aD.dup (qC _ _) H
 have K1:aD (cD A q::kF na (l'.flatMap cA)::kF na (l'.flatMap cA)::eE A q::pt m (.cells (f9 A q) 124 (0,0))::cT A q::F) h:=K0.ordT 6 [5,0,1,4,2,3]
 have K2:aD (cr (zipWith dA (A.dirs.set i ⟨d.name,l',l',[]⟩) (q.qs.set i ⟨na,nc,na,nc,none,0⟩))::eE A q::pt m (.cells (f9 A q) 124 (0,0))::cT A q::F) h:=by
  have J:=iB K1 hd hx;have J2:=kg (J.drop);have J3:aD (dA ⟨d.name,l',l',[]⟩ ⟨na,nc,na,nc,none,0⟩::rZ dA A.dirs q.qs i::eE A q::pt m (.cells (f9 A q) 124 (0,0))::cT A q::F) h:=
   aD.shut (m:=[kF na (l'.flatMap cA),kF na (l'.flatMap cA),kF none []]) (J2.ordT 7 [2,3,0,1,4,5,6])
  exact qV (aj.1 hd).1 (aj.1 hx).1 J3
 have K3:=K2.mv 1
 unfold eE at K3
 rw [hb] at K3
 have set1:∀ {zs:List uX} {p:uX} {j:Nat} {v:Value} {h1:Heap} {G:List aE} (p':uX) {Kk:Heap→Prop},aD (aL 158 4 (some b) A.dirs.length q.dc (zs.flatMap fN)::G) h1→zs[i]? = some p→j<4→(fN p).set j v=fN p'→
   (∀ h2,aD (aL 158 4 (some b) A.dirs.length q.dc ((zs.set i p').flatMap fN)::G) h2→Kk h2)→bz h1 ((b.add (i*4)).add j) v Kk:=by
  intro zs p j v h1 G p' Kk HH hp hj hc hKk;have:=qP (K:=Kk) p' cQ HH hp hj hc hKk;rw [aV] at this;exact this
 refine set1 (d,x) K3 hz (by decide) rfl fun h1 H1=>?_
 rw [ke hz] at H1
 refine set1 (⟨d.name,l',d.base,d.pend⟩,⟨na,nc,x.ba,x.bc,x.pa,x.pc⟩) H1 hz (by decide) rfl fun h2 H2=>?_
 refine set1 (⟨d.name,l',l',d.pend⟩,⟨na,nc,na,nc,x.pa,x.pc⟩) H2 (ik hz) (by decide) rfl fun h3 H3=>?_
 rw [set_set] at H3
 refine set1 (⟨d.name,l',l',[]⟩,⟨na,nc,na,nc,none,0⟩) H3 (ik hz) (by decide) rfl fun h4 H4=>hK h4 ?_
 rw [set_set,yq,← hb] at H4
 have H5:=H4.ordT 4 [2,3,0,1]
 unfold gD cT eE cD f9 at *
 dsimp only at *
 rw [length_set]
 exact H5
end
section
variable {m i:Nat} {A:AF.FS} {q:iI} {d d':AF.cG} {x x':g4} {F:List aE} {h:Heap} {dir name:ByteArray}
theorem Ez {n:Nat} {l:AF.bG} {o:AF.Op} (h:AF.mM n l o):BO l o:=by
 cases o with
 | create a f=>trivial
 | rename a b=>exact h.2.2
 | remove a=>trivial
theorem wo {b:List Nat} {k:Nat} (h8:B8 b) (hk:k≤b.length):(bT b).extract (0:Int).toNat ((k:Nat):Int).toNat=bT (b.take k):=by
 apply iK
 rw [ff,bM h8,bM (h8.take k)]
 simp
theorem CI {ps:List Int} {pa:Option Addr} {pl pc:Nat} (W:A.WF) (hp:uR F ps pa pl pc) (hs:A.steps<1099511627776) (H:aD (bp m A::F) h) :
  aC prog 84 [aI m,.slice pa pl pc] h fun v h'=>v=.tuple #[]∧aD (bp m (A.crash ps)::F) h':=by
 apply ET.ap
 unfold Kt
 have hfew:=W.few
 have W2:=W.crash ps
 simp only [aY]
 obtain ⟨q0,hq0,H0⟩:=bS H
 let At:Nat→AF.FS:=fun i=>{ A with dirs:=fG A ps i }
 have hAt0:At 0=A:=by
  show ({ A with dirs:=(AF.bX (A.dirs.take 0) ps).1++A.dirs.drop 0 }:AF.FS)=A
  rfl
 refine ⟨fun st hh=>∃ (i:Nat) (a:Option Addr) (l c:Nat) (q:iI),st=(⟨a,l,c⟩,(i:Int))∧i≤A.dirs.length∧uR F (gy A ps i) a l c∧q.qs.length=(At i).dirs.length∧gD m (At i) q F hh,
  fun st _=>((A.dirs.length:Int) - st.2).toNat,⟨0,pa,pl,pc,q0,rfl,au _,hp,hq0,H0⟩,?_⟩
 rintro st h1 ⟨i,a,l,c,q,rfl,hi,hpk,hq,H1⟩
 have hdl:(At i).dirs.length=A.dirs.length:=j0 ps i
 refine bH (a:=q.da) (l:=(At i).dirs.length) (m:=q.dc) H1 rfl ?_
 dsimp only
 rw [hdl]
 by_cases hlt:i<A.dirs.length
 · rw [af (show ((i:Int)<(A.dirs.length:Int)) by omega),ab];obtain ⟨d,hdi⟩:∃ d,A.dirs[i]? = some d:=⟨_,ah hlt⟩
   have w:=W.each d (ai hdi);have hpl:=w.pend;have hd:(At i).dirs[i]? = some d:=nr hdi;obtain ⟨x,hx,_⟩:=dg hq hd (H1.mv 3 |>.mv 3);refine bH (a:=q.da) (l:=(At i).dirs.length) (m:=q.dc) H1 rfl ?_;refine cp hq hd hx H1 fun b hc=>rR (hc 3 _ rfl) ?_;obtain ⟨a2,l2,c2,hpk2,hcall⟩:=xd (k:=d.pend.length) hpk (by omega);refine (hcall h1 (H1.rest 4)).mono ?_;rintro v h2 ⟨rfl,rfl⟩;refine ⟨_,a2,l2,c2,rfl,?_⟩;refine bH (a:=q.da) (l:=(At i).dirs.length) (m:=q.dc) H1 rfl ?_;refine cp hq hd hx H1 fun b hc=>rR (hc 2 _ rfl) ?_;have hple:=AF.nU (gy A ps i) d.pend.length;have hnext:=pO (ps:=ps) hdi;generalize hk:(AF.pick (gy A ps i) d.pend.length).1=k at hple hnext;have H2:aD (kF x.ba (d.base.flatMap cA)::pt m (.cells (f9 (At i) q) 124 (0,0))::cT (At i) q::eE (At i) q::cD (At i) q::F) h2:=(zY hd hx (H1.mv 3)).ordT 5 [0,2,3,4,1];refine ⟨fun st hh=>∃ (j:Nat) (na:Option Addr) (nc:Nat),st=(⟨na,(AF.ib d.base (d.pend.take j)).length,nc⟩,(j:Int))∧j≤k∧aD (kF na ((AF.ib d.base (d.pend.take j)).flatMap cA)::pt m (.cells (f9 (At i) q) 124 (0,0))::cT (At i) q::eE (At i) q::cD (At i) q::F) hh,
    fun st _=>((k:Int) - st.2).toNat,⟨0,x.ba,x.bc,rfl,au _,H2⟩,?_⟩
   rintro st h3 ⟨j,na,nc,rfl,hj,H3⟩;have R3:=H3.drop;dsimp only;by_cases hjk:j<k
   · rw [af (show ((j:Int)<(k:Int)) by omega),ab];obtain ⟨o,ho⟩:∃ o,d.pend[j]? = some o:=⟨_,ah (by omega)⟩
     obtain ⟨o0,o1,o2,o3,hoC⟩:=GT o;refine bH (a:=q.da) (l:=(At i).dirs.length) (m:=q.dc) R3 rfl ?_;refine cp hq hd hx R3 fun b hc=>rR (hc 3 _ rfl) ?_;refine fX ut (by decide) (fE hq hd hx R3).2.2 rfl ho fun b hb hc=>⟨_,hc 0 _ (by rw [hoC]; rfl),_,hc 1 _ (by rw [hoC]; rfl),_,hc 2 _ (by rw [hoC]; rfl),_,hc 3 _ (by rw [hoC]; rfl),_,_,_,_,rfl,?_⟩
     obtain ⟨hok,hfit⟩:=w.runs.at j ho;have e118:Value.agg #[.int .i64 o0,.string o1,.string o2,.int .i64 o3]=.agg (oW o).toArray:=by rw [hoC]
     rw [e118];have hfl:=hok.few;refine (tM hok.up (Ez hfit) (fun h' hh=>nN hh) rfl (by omega) H3).mono ?_;rintro v h4 ⟨na2,nc2,rfl,H4⟩;rw [aF,aK (by omega)];have e:AF.ib d.base (d.pend.take (j+1))=AF.does (AF.ib d.base (d.pend.take j)) o:=by
      rw [ax,ho];exact AF.oR _ _ _
     rw [← e] at H4 ⊢;exact ⟨⟨j+1,na2,nc2,rfl,by omega,((qD H4).mv 1).drop⟩,by show ((k:Int) - ((j+1:Nat):Int)).toNat<((k:Int) - (j:Int)).toNat; omega⟩
   · rw [ae (by omega),aa];have ejk:j=k:=by omega
     subst ejk;refine bH (a:=q.da) (l:=(At i).dirs.length) (m:=q.dc) R3 rfl ?_;refine bH (a:=q.da) (l:=(At i).dirs.length) (m:=q.dc) R3 rfl ?_;refine cp hq hd hx R3 fun b hc=>gm (hc 0 _ rfl) ?_;refine zy (A:=At i) (q:=q) hq hd hx H3 fun h4 H4=>?_;rw [aK (by omega)];have eA:({ At i with dirs:=(At i).dirs.set i ⟨d.name,AF.ib d.base (d.pend.take j),AF.ib d.base (d.pend.take j),[]⟩ }:AF.FS)=At (i+1):=by
      show ({ A with dirs:=(fG A ps i).set i _ }:AF.FS)={ A with dirs:=fG A ps (i+1) }
      rw [hnext.1]
      rfl
     unfold gD at H4;rw [eA] at H4;refine ⟨⟨i+1,a2,l2,c2,_,rfl,by omega,by rw [hnext.2]; exact hpk2,?_,H4⟩,by show ((A.dirs.length:Int) - ((i+1:Nat):Int)).toNat<((A.dirs.length:Int) - (i:Int)).toNat; omega⟩;show (q.qs.set i _).length=_;rw [length_set,hq,hdl];exact (j0 ps (i+1)).symm
 · rw [ae (by omega),aa];have ei:i=A.dirs.length:=by omega
   subst ei;have hD:(A.crash ps).dirs=fG A ps A.dirs.length:=rv ps
   let xsAt:Nat→List Nat:=fun j=>((A.crash ps).dirs.take j).flatMap fun (e:AF.cG)=>e.now.map (·.2)
   let Bt:List Nat→AF.FS:=fun xs=>{ A with dirs:=(A.crash ps).dirs,files:=(bL A ps xs).1 }
   have hB0:At A.dirs.length=Bt []:=by
    show ({ A with dirs:=fG A ps A.dirs.length }:AF.FS)={ A with dirs:=(A.crash ps).dirs,files:=(bL A ps []).1 }
    rw [hD]
    rfl
   have hDl:(A.crash ps).dirs.length=A.dirs.length:=by rw [hD,j0]
   rw [hB0] at H1 hq;have hxs0:xsAt 0=[]:=rfl;refine ⟨fun st hh=>∃ (j:Nat) (a:Option Addr) (l c:Nat),st=(⟨a,l,c⟩,(j:Int))∧j≤A.dirs.length∧uR F (bL A ps (xsAt j)).2 a l c∧gD m (Bt (xsAt j)) q F hh,
    fun st _=>((A.dirs.length:Int) - st.2).toNat,⟨0,a,l,c,rfl,au _,hpk,H1⟩,?_⟩
   rintro st h2 ⟨j,a,l,c,rfl,hj,hpk,H2⟩;have hql:∀ xs,q.qs.length=(Bt xs).dirs.length:=fun xs=>hq;refine bH (a:=q.da) (l:=(Bt (xsAt j)).dirs.length) (m:=q.dc) H2 rfl ?_;dsimp only;by_cases hlt2:j<A.dirs.length
   · rw [af (show ((j:Int)<(((A.crash ps).dirs.length:Nat):Int)) by omega),ab];obtain ⟨d,hdc⟩:∃ d,(A.crash ps).dirs[j]? = some d:=⟨_,ah (by omega)⟩
     have hok:=(W2.each d (ai hdc)).ok;have hnl:=hok.few;obtain ⟨x,hx⟩:∃ x,q.qs[j]? = some x:=⟨_,ah (by rw [hq]; show j<(A.crash ps).dirs.length; omega)⟩
     have hd:∀ xs,(Bt xs).dirs[j]? = some d:=fun xs=>hdc;have hsucc:xsAt (j+1)=xsAt j++d.now.map (·.2):=by
      show ((A.crash ps).dirs.take (j+1)).flatMap _=_;rw [ax,hdc,flatMap_append];show _++(d.now.map (fun (p:ByteArray×Nat)=>p.2)++[])=_;rw [append_nil]
     let ysAt:Nat→List Nat:=fun n=>xsAt j++(d.now.take n).map (·.2)
     have hys0:ysAt 0=xsAt j:=by show xsAt j++[]=_; rw [append_nil]
     refine ⟨fun st hh=>∃ (n:Nat) (a:Option Addr) (l c:Nat),st=(⟨a,l,c⟩,(n:Int))∧n≤d.now.length∧uR F (bL A ps (ysAt n)).2 a l c∧gD m (Bt (ysAt n)) q F hh,
      fun st _=>((d.now.length:Int) - st.2).toNat,⟨0,a,l,c,rfl,au _,by rw [hys0]; exact hpk,by rw [hys0]; exact H2⟩,?_⟩
     rintro st h3 ⟨n,a,l,c,rfl,hn,hpk,H3⟩;refine bH (a:=q.da) (l:=(Bt (ysAt n)).dirs.length) (m:=q.dc) H3 rfl ?_;refine cp (hql _) (hd _) hx H3 fun b hc=>rR (hc 1 _ rfl) ?_;dsimp only;by_cases hlt3:n<d.now.length
     · rw [af (show ((n:Int)<(d.now.length:Int)) by omega),ab];obtain ⟨p,hpn⟩:∃ p,d.now[n]? = some p:=⟨_,ah hlt3⟩
       have hpf:=(hok.each p (ai hpn)).1;have hcl:(A.crash ps).files.length=A.files.length:=by rw [iF,ge]
       have hfl:=ge (A:=A) ps (ysAt n);obtain ⟨y,hy⟩:∃ y,(bL A ps (ysAt n)).1[p.2]? = some y:=⟨_,ah (by omega)⟩
       have hyo:=rg W ps (ysAt n) y (ai hy);have hyl:=km hyo.2.2;have hy2:(Bt (ysAt n)).files[p.2]? = some y:=hy;have hnx:=og hy;have hys:ysAt (n+1)=ysAt n++[p.2]:=by
        show xsAt j++(d.now.take (n+1)).map (·.2)=xsAt j++(d.now.take n).map (·.2)++[p.2];rw [ax,hpn,map_append,append_assoc]
        rfl
       rw [← hys] at hnx;have h1:=hyo.1;have h2':=hyo.2.1;refine bH (a:=q.da) (l:=(Bt (ysAt n)).dirs.length) (m:=q.dc) H3 rfl ?_;refine cp (hql _) (hd _) hx H3 fun b hc=>rR (hc 1 _ rfl) ?_;refine fX cn (by decide) (fE (hql _) (hd _) hx H3).1 rfl hpn fun b hb hc=>DV (hc 1 _ rfl) ?_;have files:∀ {h':Heap} {B:AF.FS} {G:List aE} {K:Option Addr→Nat→Nat→Prop},gD m B q G h'→K q.fa B.files.length q.fc→Ld h' ((⟨m,0,none⟩:Addr).add 4) fun v=>aT v K:=fun HH hK=>bH (a:=q.fa) (m:=q.fc) HH rfl hK;refine files H3 ?_;refine dM hy2 H3 fun b e0 e1=>gm e0 ?_;refine files H3 ?_;refine dM hy2 H3 fun b e0 e1=>DV e1 ?_;have wn:wrap .i64 (((bT y.b).size:Int) - (y.safe:Int))=((y.b.length - y.safe:Nat):Int):=by rw [hyl,IntWalk.i64_in _ (by omega)]; omega
       rw [wn];obtain ⟨a2,l2,c2,hpk2,hcall⟩:=xd (k:=y.b.length - y.safe) hpk (by omega);refine ⟨_,hcall h3 (H3.rest 4),?_⟩;refine ⟨_,a2,l2,c2,rfl,?_⟩;have hkle:=AF.nU (bL A ps (ysAt n)).2 (y.b.length - y.safe);generalize hk:(AF.pick (bL A ps (ysAt n)).2 (y.b.length - y.safe)).1=k at hkle hnx;refine files H3 ?_;refine files H3 ?_;refine dM hy2 H3 fun b e0 e1=>gm e0 ?_;refine files H3 ?_;refine dM hy2 H3 fun b e0 e1=>DV e1 ?_;have wk:wrap .i64 ((y.safe:Int)+(k:Int))=((y.safe+k:Nat):Int):=by rw [IntWalk.i64_in _ (by omega)]; omega
       rw [wk];refine ⟨by omega,by omega,by rw [hyl]; omega,?_⟩;rw [wo hyo.2.2 (by omega)];refine ki (A:=Bt (ysAt n)) (m:=m) (y':=⟨y.b.take (y.safe+k),y.safe⟩) hy2 (j:=0) (by decide) rfl H3 fun h4 H4=>?_;have hy4:({ Bt (ysAt n) with files:=(Bt (ysAt n)).files.set p.2 ⟨y.b.take (y.safe+k),y.safe⟩ }:AF.FS).files[p.2]? = some ⟨y.b.take (y.safe+k),y.safe⟩:=ik hy2;generalize hB4:({ Bt (ysAt n) with files:=(Bt (ysAt n)).files.set p.2 ⟨y.b.take (y.safe+k),y.safe⟩ }:AF.FS)=B4 at H4 hy4;refine files H4 ?_;refine files H4 ?_;refine dM hy4 H4 fun b e0 e1=>gm e0 ?_;have t8:B8 (y.b.take (y.safe+k)):=hyo.2.2.take _;have tl:(bT (y.b.take (y.safe+k))).size=y.safe+k:=by rw [km t8,aq]; omega
       rw [tl];refine ki (A:=B4) (m:=m) (y':=⟨y.b.take (y.safe+k),y.safe+k⟩) hy4 (j:=1) (by decide) rfl H4 fun h5 H5=>?_;rw [aK (by omega)];have eB:({ B4 with files:=B4.files.set p.2 ⟨y.b.take (y.safe+k),y.safe+k⟩ }:AF.FS)=Bt (ysAt (n+1)):=by
        rw [← hB4];show ({ A with dirs:=(A.crash ps).dirs,files:=((bL A ps (ysAt n)).1.set p.2 _).set p.2 _ }:AF.FS)={ A with dirs:=(A.crash ps).dirs,files:=(bL A ps (ysAt (n+1))).1 }
        rw [set_set,hnx]
       unfold gD at H5;rw [eB] at H5;refine ⟨⟨n+1,a2,l2,c2,rfl,by omega,?_,H5⟩,by show ((d.now.length:Int) - ((n+1:Nat):Int)).toNat<((d.now.length:Int) - (n:Int)).toNat; omega⟩;rw [hnx];exact hpk2
     · rw [ae (by omega),aa,aK (by omega)];have en:ysAt n=xsAt (j+1):=by
        rw [hsucc];show xsAt j++(d.now.take n).map (·.2)=_;rw [ar (by omega)]
       rw [en] at H3 hpk;exact ⟨⟨j+1,a,l,c,rfl,by omega,hpk,H3⟩,by show ((A.dirs.length:Int) - ((j+1:Nat):Int)).toNat<((A.dirs.length:Int) - (j:Int)).toNat; omega⟩
   · rw [ae (show ¬ ((j:Int)<(((A.crash ps).dirs.length:Nat):Int)) by omega),aa];have ej:xsAt j=(A.crash ps).idx:=by
      show ((A.crash ps).dirs.take j).flatMap _=(A.crash ps).dirs.flatMap _;rw [ar (by omega)]
     rw [ej] at H2;rw [aV];have eC:({ { Bt (A.crash ps).idx with off:=false } with fuse:=none }:AF.FS)=A.crash ps:=by
      show ({ A with dirs:=(A.crash ps).dirs,files:=(bL A ps (A.crash ps).idx).1,off:=false,fuse:=none }:AF.FS)=A.crash ps;rw [← iF]
      rfl
     refine bQ (c':=f9 { Bt (A.crash ps).idx with off:=false } q) H2 (by show 3<6; decide) rfl fun h5 H5=>?_;rw [aV];refine bQ (c':=f9 { { Bt (A.crash ps).idx with off:=false } with fuse:=none } q) H5 (by show 2<6; decide) rfl fun h6 H6=>?_;refine ⟨by trivial,?_⟩;have K:aD (bp m ({ { Bt (A.crash ps).idx with off:=false } with fuse:=none }:AF.FS)::F) h6:=dH (q:=q) hq H6;rw [eC] at K;exact K
end
namespace AF
def FS.act (A:FS) (k:Int) (dir name b:ByteArray) (n:Int) (turn:Nat) (ps:List Int):FS×Nat:=
 if k=0 then A.mkdir dir else if k=1 then A.create dir name else if k=2 then A.append dir name (sb b) else if k=3 then A.sync dir name else if k=4 then A.syncDir dir else
 if k=5 then A.rename dir name b else if k=6 then A.remove dir name else if k=7 then A.setRoom n else if k=8 then A.setFuse n else if k=9 then (A.crash ps,0) else
 if k=10 then A.spoil dir name n turn else if k=11 then A.plant dir name (sb b) else (A,0)
theorem FS.act_cases {P:FS×Nat→Prop} {A:FS} {k n:Int} {dir name b:ByteArray} {turn:Nat} {ps:List Int} (h0:P (A.mkdir dir)) (h1:P (A.create dir name)) (h2:P (A.append dir name (sb b))) (h3:P (A.sync dir name)) (h4:P (A.syncDir dir)) (h5:P (A.rename dir name b)) (h6:P (A.remove dir name)) (h7:P (A.setRoom n)) (h8:P (A.setFuse n)) (h9:P ((A.crash ps,0))) (h10:P (A.spoil dir name n turn)) (h11:P (A.plant dir name (sb b))) (h12:P ((A,0))):P (A.act k dir name b n turn ps):=by
 unfold FS.act
 by_cases k0:k=0
 · rw [al k0]; exact h0
 rw [ak k0]
 by_cases k1:k=1
 · rw [al k1]; exact h1
 rw [ak k1]
 by_cases k2:k=2
 · rw [al k2]; exact h2
 rw [ak k2]
 by_cases k3:k=3
 · rw [al k3]; exact h3
 rw [ak k3]
 by_cases k4:k=4
 · rw [al k4]; exact h4
 rw [ak k4]
 by_cases k5:k=5
 · rw [al k5]; exact h5
 rw [ak k5]
 by_cases k6:k=6
 · rw [al k6]; exact h6
 rw [ak k6]
 by_cases k7:k=7
 · rw [al k7]; exact h7
 rw [ak k7]
 by_cases k8:k=8
 · rw [al k8]; exact h8
 rw [ak k8]
 by_cases k9:k=9
 · rw [al k9]; exact h9
 rw [ak k9]
 by_cases k10:k=10
 · rw [al k10]; exact h10
 rw [ak k10]
 by_cases k11:k=11
 · rw [al k11]; exact h11
 rw [ak k11]
 exact h12
theorem FS.WF.act {A:FS} (W:A.WF) {k n:Int} {dir name b:ByteArray} {turn:Nat} {ps:List Int} (hn:n≤9223372036854775807) (ht:turn<256):(A.act k dir name b n turn ps).1.WF:=
 FS.act_cases (P:=fun r=>r.1.WF) (W.mkdir _) (W.create _ _) (W.append _ _ (fT b)) (W.sync _ _) (W.syncDir _) (W.rename _ _ _) (W.remove _ _) (W.setRoom _) (W.setFuse hn) (W.crash _) (W.spoil _ _ _ ht) (W.plant _ _ (fT b)) W
def d8 (A B:FS):Prop:=B.steps≤A.steps+1∧B.files.length≤A.files.length+1
theorem d8.same (A:FS):d8 A A:=⟨Nat.le_succ _,Nat.le_succ _⟩
theorem d8.step {A:FS} {g:FS→FS} (h1:(g A.stepOn).steps=A.steps+1) (h2:(g A.stepOn).files.length≤A.files.length+1):d8 A (A.step g).1:=by
 unfold FS.step
 split
 · exact d8.same A
 · exact ⟨by rw [h1]; exact av _,h2⟩
theorem d8.act {A:FS} {k n:Int} {dir name b:ByteArray} {turn:Nat} {ps:List Int}:d8 A (A.act k dir name b n turn ps).1:=by
 have S:=d8.same A
 have F0:∀ (i:Nat) (g:dy→dy),(A.stepOn.setFile i g).files.length≤A.files.length+1:=fun i g=>by
  show (A.files.modify i g).length≤_;rw [length_modify];exact Nat.le_succ _
 refine FS.act_cases (P:=fun r=>d8 A r.1) ?_ ?_ ?_ ?_ ?_ ?_ ?_ ?_ ?_ ?_ ?_ ?_ ?_
 · unfold FS.mkdir;split
   · exact S
   · split
     · split
       · exact S
       · exact .step rfl (Nat.le_succ _)
     · exact S
 · unfold FS.create;split
   · exact S
   · split
     · exact S
     · split
       · exact S
       · exact .step rfl (by show (A.files++[_]).length≤_; rw [am]; exact av _)
 · unfold FS.append;split
   · exact S
   · split
     · exact S
     · split
       · exact S
       · exact .step rfl (F0 _ _)
 · unfold FS.sync;split
   · exact S
   · exact .step rfl (F0 _ _)
 · unfold FS.syncDir;split
   · exact S
   · exact .step rfl (Nat.le_succ _)
 · unfold FS.rename;split
   · exact S
   · split
     · exact S
     · exact .step rfl (Nat.le_succ _)
 · unfold FS.remove;split
   · exact S
   · exact .step rfl (Nat.le_succ _)
 · unfold FS.setRoom;split <;> exact S
 · unfold FS.setFuse;split <;> exact S
 · exact ⟨Nat.le_succ _,by show (cE _ _ _).1.length≤_; rw [fU]; exact Nat.le_succ _⟩
 · unfold FS.spoil;split
   · exact S
   · split
     · exact S
     · split
       · exact S
       · exact ⟨Nat.le_succ _,by show (A.files.modify _ _).length≤_; rw [length_modify]; exact Nat.le_succ _⟩
 · unfold FS.plant;split
   · exact S
   · split
     · exact S
     · split
       · exact S
       · exact ⟨Nat.le_succ _,by show (A.files++[_]).length≤_; rw [am]; exact av _⟩
 · exact S
end AF
abbrev wx (k:Int) (dir name b:ByteArray) (n:Int) (turn:Nat) (pa:Option Addr) (pl pc:Nat):Array Value:=#[.int .i64 k,.string dir,.string name,.string b,.int .i64 n,.int .u8 (turn:Int),.slice pa pl pc]
section
variable {f m:Nat} {A:AF.FS} {F:List aE} {h:Heap} {k n:Int} {dir name b:ByteArray} {turn:Nat} {ps:List Int} {pa:Option Addr} {pl pc:Nat}
theorem uR.cons {B:aE} (hp:uR F ps pa pl pc):uR (B::F) ps pa pl pc:=⟨hp.len,hp.cap,fun h' hh=>hp.read h' hh.drop⟩
theorem C6 (W:A.WF) (hs:A.steps<1099511627776) (hd:dir.size<4611686018427387904) (hn:name.size<4611686018427387904) (hb:b.size<4611686018427387904) (ht:turn<256) (hni:n≤9223372036854775807) (hp:uR F ps pa pl pc) (H:aD (co f A::F) h) :
  aC prog 27 [aI f,.agg (wx k dir name b n turn pa pl pc)] h fun v h'=>v=.int .i64 ((A.act k dir name b n turn ps).2:Int)∧aD (co f (A.act k dir name b n turn ps).1::F) h':=by
 apply Fa.ap
 unfold KK AF.FS.act
 refine aQ H fun b0 h1 H0=>?_
 have H1:=H0.mv 1
 have HB:aD (pt b0 (.cells (wx k dir name b n turn pa pl pc) 59 (0,0))::co f A::F) h1:=H0
 have done:∀ {B:AF.FS} {h':Heap},aD (co f B::pt b0 (.cells (wx k dir name b n turn pa pl pc) 59 (0,0))::F) h'→aD (co f B::F) h':=fun H'=>H'.ordT 2 [0]
 refine gr (x:=k) HB rfl ?_
 by_cases k0:k=0
 · rw [jX k0,ab,al k0];refine bI HB rfl ?_;refine (rH W hs hd H1).mono ?_;rintro v h2 ⟨rfl,H2⟩;rw [aJ];exact ⟨rfl,done H2⟩
 rw [iW k0,aa,ak k0]
 by_cases k1:k=1
 · rw [jX k1,ab,al k1];refine bI HB rfl (bI HB rfl ?_);refine (rG W hs hd hn H1).mono ?_;rintro v h2 ⟨rfl,H2⟩;rw [aJ];exact ⟨rfl,done H2⟩
 rw [iW k1,aa,ak k1]
 by_cases k2:k=2
 · rw [jX k2,ab,al k2];refine bI HB rfl ?_;have hbl:=bd b;refine ot (by kernel_rfl) Jx (by kernel_rfl) (show b.size≤maxLen by unfold maxLen; omega) HB fun xb xc h2 H2=>?_;rw [aF];refine bI (H2.mv 1) rfl (bI (H2.mv 1) rfl ?_);refine (rF (bs:=sb b) W hs hd hn (F:=aL 5 1 (some ⟨xb,0,none⟩) b.size xc ((sb b).map nv)::pt b0 (.cells (wx k dir name b n turn pa pl pc) 59 (0,0))::F) (fun h' hh=>aH hh) hbl hb (H2.mv 2)).mono ?_;rintro v h3 ⟨rfl,H3⟩;rw [aJ];refine ⟨fun st hh=>∃ (i:Nat) (ns:List Nat),st=(i:Int)∧i≤b.size∧ns.length=b.size∧B8 ns∧aD (aL 5 1 (some ⟨xb,0,none⟩) b.size xc (ns.map nv)::co f (A.append dir name (sb b)).1::pt b0 (.cells (wx k dir name b n turn pa pl pc) 59 (0,0))::F) hh,
    fun st _=>((b.size:Int) - st).toNat,⟨0,sb b,rfl,au _,hbl,fT b,H3.mv 1⟩,?_⟩
   rintro st h4 ⟨i,ns,rfl,hi,hnl,hn8,H4⟩;by_cases hlt:i<b.size
   · rw [af (show ((i:Int)<(b.size:Int)) by omega),ab];obtain ⟨x,hx⟩:∃ x,ns[i]? = some x:=⟨_,ah (by omega)⟩
     have hx8:=hn8 x (ai hx);have hget:(ns.map nv)[i]? = some (nv x):=by rw [getElem?_map,hx]; rfl
     have hml:(ns.map nv).length=b.size:=by rw [an,hnl]
     refine cf (aH H4) hml hget fun b1 hb1 hc=>⟨_,hc,?_⟩
     show DI .u8 (.int .u8 (x:Int)) _;rw [aJ];refine cf (aH H4) hml hget fun b2 hb2 hc2=>?_;simp only [Option.some.injEq] at hb2;subst hb2;rw [show (255:Int)=((255:Nat):Int) from rfl,GE hx8 (by decide),aV];refine lA H4 (by rw [hml]; exact hlt) fun h5 H5=>?_;rw [show (ns.map nv).set i (.int .u8 ((x ^^^ 255:Nat):Int))=(ns.set i (x ^^^ 255)).map nv from (map_set ..).symm] at H5;rw [aK (by omega)];refine ⟨⟨i+1,ns.set i (x ^^^ 255),rfl,by omega,by rw [length_set,hnl],?_,H5⟩,?_⟩
     · intro n hn
       rcases List.mem_or_eq_of_mem_set hn with hn | rfl
       · exact hn8 n hn
       · exact Nat.xor_lt_two_pow (n:=8) hx8 (by decide)
     · show ((b.size:Int) - ((i+1:Nat):Int)).toNat<((b.size:Int) - (i:Int)).toNat;omega
   · rw [ae (show ¬ ((i:Int)<(b.size:Int)) by omega),aa];exact ⟨rfl,done H4.drop⟩
 rw [iW k2,aa,ak k2]
 by_cases k3:k=3
 · rw [jX k3,ab,al k3];refine bI HB rfl (bI HB rfl ?_);refine (rE W hs hd hn H1).mono ?_;rintro v h2 ⟨rfl,H2⟩;rw [aJ];exact ⟨rfl,done H2⟩
 rw [iW k3,aa,ak k3]
 by_cases k4:k=4
 · rw [jX k4,ab,al k4];refine bI HB rfl ?_;refine (l7 W hs hd H1).mono ?_;rintro v h2 ⟨rfl,H2⟩;rw [aJ];exact ⟨rfl,done H2⟩
 rw [iW k4,aa,ak k4]
 by_cases k5:k=5
 · rw [jX k5,ab,al k5];refine bI HB rfl (bI HB rfl (bI HB rfl ?_));refine (rD W hs hd hn hb H1).mono ?_;rintro v h2 ⟨rfl,H2⟩;rw [aJ];exact ⟨rfl,done H2⟩
 rw [iW k5,aa,ak k5]
 by_cases k6:k=6
 · rw [jX k6,ab,al k6];refine bI HB rfl (bI HB rfl ?_);refine (l5 W hs hd hn H1).mono ?_;rintro v h2 ⟨rfl,H2⟩;rw [aJ];exact ⟨rfl,done H2⟩
 rw [iW k6,aa,ak k6]
 by_cases k7:k=7
 · rw [jX k7,ab,al k7];refine gr (x:=n) HB rfl ?_;refine (CN H1).mono ?_;rintro v h2 ⟨rfl,H2⟩;rw [aJ];exact ⟨rfl,done H2⟩
 rw [iW k7,aa,ak k7]
 by_cases k8:k=8
 · rw [jX k8,ab,al k8];refine gr (x:=n) HB rfl ?_;refine (wY H1).mono ?_;rintro v h2 ⟨rfl,H2⟩;rw [aJ];exact ⟨rfl,done H2⟩
 rw [iW k8,aa,ak k8]
 by_cases k9:k=9
 · rw [jX k9,ab,al k9];refine bH (a:=pa) (l:=pl) (m:=pc) HB rfl ?_;refine (Dc W hp.cons hs H1).mono ?_;rintro v h2 ⟨rfl,H2⟩;rw [aJ];exact ⟨rfl,done H2⟩
 rw [iW k9,aa,ak k9]
 by_cases k10:k=10
 · rw [jX k10,ab,al k10];refine bI HB rfl (bI HB rfl ?_);refine gr (x:=n) HB rfl ?_;refine gr (x:=(turn:Int)) HB rfl ?_;refine (CM W ht hd hn hni H1).mono ?_;rintro v h2 ⟨rfl,H2⟩;rw [aJ];exact ⟨rfl,done H2⟩
 rw [iW k10,aa,ak k10]
 by_cases k11:k=11
 · rw [jX k11,ab,al k11];refine bI HB rfl (bI HB rfl (bI HB rfl ?_));refine ot (by kernel_rfl) Jx (by kernel_rfl) (show b.size≤maxLen by unfold maxLen; omega) HB fun xb xc h2 H2=>?_;rw [aF];refine (CL (bs:=sb b) W hd hn (fT b) (bd b) (H2.ordT 3 [2,0,1])).mono ?_;rintro v h3 ⟨rfl,H3⟩;rw [aJ];exact ⟨rfl,done H3⟩
 rw [iW k11,aa,ak k11]
 exact ⟨rfl,done H1⟩
theorem C5 (W:A.WF) (hs:A.steps<1099511627776) (hm:A.files.length<1099511627776) (hb:b.size<4611686018427387904) (ht:turn<256) (hp:uR F ps pa pl pc) (H:aD (bp m A::F) h) :
  aC prog 28 [aI m,.agg (wx k dir name b n turn pa pl pc)] h fun v h'=>v=.int .i64 ((A.act k dir name b n turn ps).2:Int)∧aD (bp m (A.act k dir name b n turn ps).1::F) h':=by
 apply E9.ap
 unfold KJ AF.FS.act
 refine aQ H fun b0 h1 H0=>?_
 have H1:=H0.mv 1
 have HB:aD (pt b0 (.cells (wx k dir name b n turn pa pl pc) 59 (0,0))::bp m A::F) h1:=H0
 have done:∀ {B:AF.FS} {h':Heap},aD (bp m B::pt b0 (.cells (wx k dir name b n turn pa pl pc) 59 (0,0))::F) h'→aD (bp m B::F) h':=fun H'=>H'.ordT 2 [0]
 refine gr (x:=k) HB rfl ?_
 by_cases k0:k=0
 · rw [jX k0,ab,al k0];refine bI HB rfl ?_;refine (wM W hs H1).mono ?_;rintro v h2 ⟨rfl,H2⟩;rw [aJ];exact ⟨rfl,done H2⟩
 rw [iW k0,aa,ak k0]
 by_cases k1:k=1
 · rw [jX k1,ab,al k1];refine bI HB rfl (bI HB rfl ?_);refine (wL W hs hm H1).mono ?_;rintro v h2 ⟨rfl,H2⟩;rw [aJ];exact ⟨rfl,done H2⟩
 rw [iW k1,aa,ak k1]
 by_cases k2:k=2
 · rw [jX k2,ab,al k2];refine bI HB rfl (bI HB rfl (bI HB rfl ?_));refine (wK W hs hb H1).mono ?_;rintro v h2 ⟨rfl,H2⟩;rw [aJ];exact ⟨rfl,done H2⟩
 rw [iW k2,aa,ak k2]
 by_cases k3:k=3
 · rw [jX k3,ab,al k3];refine bI HB rfl (bI HB rfl ?_);refine (wJ W hs H1).mono ?_;rintro v h2 ⟨rfl,H2⟩;rw [aJ];exact ⟨rfl,done H2⟩
 rw [iW k3,aa,ak k3]
 by_cases k4:k=4
 · rw [jX k4,ab,al k4];refine bI HB rfl ?_;refine (oB W hs H1).mono ?_;rintro v h2 ⟨rfl,H2⟩;rw [aJ];exact ⟨rfl,done H2⟩
 rw [iW k4,aa,ak k4]
 by_cases k5:k=5
 · rw [jX k5,ab,al k5];refine bI HB rfl (bI HB rfl (bI HB rfl ?_));refine (wI W hs H1).mono ?_;rintro v h2 ⟨rfl,H2⟩;rw [aJ];exact ⟨rfl,done H2⟩
 rw [iW k5,aa,ak k5]
 by_cases k6:k=6
 · rw [jX k6,ab,al k6];refine bI HB rfl (bI HB rfl ?_);refine (oA W hs H1).mono ?_;rintro v h2 ⟨rfl,H2⟩;rw [aJ];exact ⟨rfl,done H2⟩
 rw [iW k6,aa,ak k6]
 by_cases k7:k=7
 · rw [jX k7,ab,al k7];refine gr (x:=n) HB rfl ?_;refine (CK H1).mono ?_;rintro v h2 ⟨rfl,H2⟩;rw [aJ];exact ⟨rfl,done H2⟩
 rw [iW k7,aa,ak k7]
 by_cases k8:k=8
 · rw [jX k8,ab,al k8];refine gr (x:=n) HB rfl ?_;refine (CJ H1).mono ?_;rintro v h2 ⟨rfl,H2⟩;rw [aJ];exact ⟨rfl,done H2⟩
 rw [iW k8,aa,ak k8]
 by_cases k9:k=9
 · rw [jX k9,ab,al k9];refine bH (a:=pa) (l:=pl) (m:=pc) HB rfl ?_;refine (CI W hp.cons hs H1).mono ?_;rintro v h2 ⟨rfl,H2⟩;exact ⟨rfl,rfl,done H2⟩
 rw [iW k9,aa,ak k9]
 by_cases k10:k=10
 · rw [jX k10,ab,al k10];refine bI HB rfl (bI HB rfl ?_);refine gr (x:=n) HB rfl ?_;refine gr (x:=(turn:Int)) HB rfl ?_;refine (CH W ht H1).mono ?_;rintro v h2 ⟨rfl,H2⟩;rw [aJ];exact ⟨rfl,done H2⟩
 rw [iW k10,aa,ak k10]
 by_cases k11:k=11
 · rw [jX k11,ab,al k11];refine bI HB rfl (bI HB rfl (bI HB rfl ?_));refine (CG W hm H1).mono ?_;rintro v h3 ⟨rfl,H3⟩;rw [aJ];exact ⟨rfl,done H3⟩
 rw [iW k11,aa,ak k11]
 exact ⟨rfl,done H1⟩
end
set_option maxRecDepth 8000
section
variable {f m:Nat} {A:AF.FS} {F:List aE} {h:Heap}
theorem rM (W:A.WF) (H:aD (co f A::bp m A::F) h):aC prog 29 [aI f,aI m] h fun v h'=>v=.bool true∧aD (co f A::bp m A::F) h':=by
 apply E8.ap
 unfold KI
 have hfew:=W.few
 refine ⟨_,(CF H).mono fun v h' hh=>hh,?_⟩
 rw [aJ]
 refine ⟨_,(wH W (H.mv 1)).mono fun v h' hh=>hh,?_⟩
 rw [aJ,Co,ae (by simp),aa]
 refine ⟨_,(Ds H).mono fun v h' hh=>hh,?_⟩
 rw [aJ]
 obtain ⟨q,hq,H1⟩:=bS (H.mv 1)
 simp only [aY]
 refine gr (x:=(A.steps:Int)) H1 rfl ?_
 rw [Co,ae (by simp),aa]
 refine ⟨_,(CE H).mono fun v h' hh=>hh,?_⟩
 rw [cd]
 refine gA (v:=.bool A.off) H1 rfl ?_
 rw [cd,show ((!A.off)==A.off)=false by cases A.off <;> rfl,aa]
 refine (CU W (H1.ordT 5 [4,0,1,2,3])).mono ?_
 rintro v h1 ⟨da,dc,rfl,H2⟩
 rw [aF]
 refine bH (a:=q.da) (l:=A.dirs.length) (m:=q.dc) (H2.mv 2) rfl ?_
 rw [Co,ae (by simp),aa]
 have H3:aD (bp m A::aL 9 1 da A.dirs.length dc ((A.dirs.map (·.name)).map Value.string)::co f A::F) h1:=dH hq (H2.ordT 6 [2,3,4,5,0,1])
 refine ⟨fun st hh=>∃ i:Nat,st=(i:Int)∧i≤A.dirs.length∧aD (bp m A::aL 9 1 da A.dirs.length dc ((A.dirs.map (·.name)).map Value.string)::co f A::F) hh,
  fun st _=>((A.dirs.length:Int) - st).toNat,⟨0,rfl,au _,H3⟩,?_⟩
 rintro st h2 ⟨i,rfl,hi,H4⟩
 by_cases hlt:i<A.dirs.length
 · rw [af (show ((i:Int)<(A.dirs.length:Int)) by omega),ab];obtain ⟨d,hd⟩:∃ d,A.dirs[i]? = some d:=⟨_,ah hlt⟩
   have hnm:(A.dirs.map (·.name))[i]? = some d.name:=by rw [getElem?_map,hd]; rfl
   have hnl:(A.dirs.map (·.name)).length=A.dirs.length:=an ..;have hds:d.name.size<4611686018427387904:=by
    have:=(W.each d (ai hd)).name;unfold AF.right at this;simp only [aw,decide_eq_true_eq] at this;omega
   refine eR (aH (H4.mv 1)) hnl hnm fun b hc=>gm hc ?_;refine (lZ W hds (H4.mv 2)).mono ?_;have mdir:∀ {h':Heap} {G:List aE} {K:ByteArray→Prop},aD (bp m A::G) h'→K d.name→Ld h' ((⟨m,0,none⟩:Addr).add 5) fun v4=>aT v4 fun x10a x10l x10c=>aR x10a x10l (i:Int) 4 fun a5=>Ld h' (a5.add 0) fun v5=>DS v5 K:=by
    intro h' G K HH hK;obtain ⟨q,hq,HH1⟩:=bS HH;obtain ⟨x,hx,_⟩:=dg hq hd (HH1.mv 3 |>.mv 3);refine bH (a:=q.da) (l:=A.dirs.length) (m:=q.dc) HH1 rfl ?_;exact cp hq hd hx HH1 fun b hc=>gm (hc 0 _ rfl) hK
   have next:∀ hx,aD (bp m A::aL 9 1 da A.dirs.length dc ((A.dirs.map (·.name)).map Value.string)::co f A::F) hx→
    (∃ i_1:Nat,wrap .i64 ((i:Int)+1)=(i_1:Int)∧i_1≤A.dirs.length∧aD (bp m A::aL 9 1 da A.dirs.length dc ((A.dirs.map (·.name)).map Value.string)::co f A::F) hx)∧((A.dirs.length:Int) - wrap .i64 ((i:Int)+1)).toNat<((A.dirs.length:Int) - (i:Int)).toNat:=by
    intro hx HH;rw [aK (by omega)];exact ⟨⟨i+1,rfl,by omega,HH⟩,by omega⟩
   rintro v h3 (⟨ks,ka,kc,hl,hright,hkl,rfl,H5⟩ | ⟨e,hl,e0,rfl,H5⟩)
   · refine ⟨ka,ks.length,kc,0,rfl,?_⟩;refine mdir (H5.mv 2) ?_;refine (kD W (H5.mv 2)).mono ?_;rintro v h4 (⟨ks2,ka2,kc2,hl2,rfl,H6⟩ | ⟨e,hl2,_⟩)
     · rw [hl] at hl2;cases hl2;refine ⟨ka2,ks.length,kc2,0,rfl,?_⟩;refine eR (aH (H6.mv 4)) hnl hnm fun b hc=>gm hc ?_;refine mdir (H6.mv 1) ?_;rw [eM,af rfl,az,aa,show ((0:Int)!=0)=false from rfl,aa,Co,ae (by simp),aa];refine ⟨fun st hh=>∃ n:Nat,st=(n:Int)∧n≤ks.length∧aD (aL 9 1 ka2 ks.length kc2 (ks.map Value.string)::bp m A::aL 9 1 ka ks.length kc (ks.map Value.string)::co f A::aL 9 1 da A.dirs.length dc ((A.dirs.map (·.name)).map Value.string)::F) hh,
        fun st _=>((ks.length:Int) - st).toNat,⟨0,rfl,au _,H6⟩,?_⟩
       rintro st h5 ⟨n,rfl,hn,H7⟩;by_cases hlt2:n<ks.length
       · rw [af (show ((n:Int)<(ks.length:Int)) by omega),ab];obtain ⟨k,hk⟩:∃ k,ks[n]? = some k:=⟨_,ah hlt2⟩
         have hks:k.size<4611686018427387904:=by
          have:=hright k (ai hk);unfold AF.right at this;simp only [aw,decide_eq_true_eq] at this;omega
         refine eR (aH (H7.mv 4)) hnl hnm fun b hc=>gm hc ?_;refine eR (aH (H7.mv 2)) rfl hk fun b hc=>gm hc ?_;refine (wG W hds hks (H7.mv 3)).mono ?_;have tail:∀ {x19a:Option Addr} {x19l x19c:Nat} {x20:Int} {h6:Heap} {bs:ByteArray},aD (co f A::aL 9 1 ka2 ks.length kc2 (ks.map Value.string)::bp m A::aL 9 1 ka ks.length kc (ks.map Value.string)::aL 9 1 da A.dirs.length dc ((A.dirs.map (·.name)).map Value.string)::F) h6→bJ h6 x19a x19l bs→xp (A.read d.name k)=.tuple #[.string bs,.int .i64 x20]→
          aR da A.dirs.length (i:Int) 1 fun a11=>Ld h6 a11 fun v11=>DS v11 fun x21=>aR ka2 ks.length (n:Int) 1 fun a12=>Ld h6 a12 fun v12=>DS v12 fun x22=>aC prog 93 [aI m,.string x21,.string x22] h6 fun r12 h_10=>
           ∃ (x23:ByteArray),∃ (x24:Int),r12=.tuple #[.string x23,.int .i64 x24]∧aR ka ks.length (n:Int) 1 fun a13=>Ld h_10 a13 fun v13=>DS v13 fun x25=>aR ka2 ks.length (n:Int) 1 fun a14=>Ld h_10 a14 fun v14=>DS v14 fun x26=>
           (bif !cv x25 x26 then Value.bool false=Value.bool true∧aD (co f A::bp m A::F) h_10 else
            (bif (x20:Int)!=x24 then Value.bool false=Value.bool true∧aD (co f A::bp m A::F) h_10 else
             ∃ bs0:ByteArray,bJ h_10 x19a x19l bs0∧(bif !cv bs0 x23 then Value.bool false=Value.bool true∧aD (co f A::bp m A::F) h_10 else
               ((∃ n_1:Nat,wrap .i64 ((n:Int)+1)=(n_1:Int)∧n_1≤ks.length∧aD (aL 9 1 ka2 ks.length kc2 (ks.map Value.string)::bp m A::aL 9 1 ka ks.length kc (ks.map Value.string)::co f A::aL 9 1 da A.dirs.length dc ((A.dirs.map (·.name)).map Value.string)::F) h_10)∧((ks.length:Int) - wrap .i64 ((n:Int)+1)).toNat<((ks.length:Int) - (n:Int)).toNat)))):=by
          intro x19a x19l x19c x20 h6 bs HH hb hv;refine eR (aH (HH.mv 4)) hnl hnm fun b hc=>gm hc ?_;refine eR (aH (HH.mv 1)) rfl hk fun b hc=>gm hc ?_;refine (wF W (HH.mv 2)).mono ?_;rintro v h7 ⟨rfl,rfl⟩;refine ⟨bs,x20,hv,?_⟩;refine eR (aH (HH.mv 3)) rfl hk fun b hc=>gm hc ?_;refine eR (aH (HH.mv 1)) rfl hk fun b hc=>gm hc ?_;rw [eM,af rfl,az,aa,show (x20 !=x20)=false by rw [bne_self_eq_false],aa];refine ⟨bs,hb,?_⟩;rw [eM,af rfl,az,aa,aK (by omega)];exact ⟨⟨n+1,rfl,by omega,HH.ordT 5 [1,2,3,0,4]⟩,by omega⟩
         rintro v h6 (⟨bs,xa,xc,hrd,hb8,hbl,rfl,H8⟩ | ⟨e,hrd,e0,rfl,H8⟩)
         · refine ⟨xa,bs.length,xc,0,rfl,?_⟩;exact tail (x19c:=xc) (bs:=bT bs) H8.drop (ct (aH H8) rfl hb8) (by rw [hrd]; rfl)
         · refine ⟨none,0,0,(e:Int),rfl,?_⟩;exact tail (x19c:=0) (bs:=.empty) H8 rfl (by rw [hrd]; rfl)
       · rw [ae (by omega),aa];exact next h5 (H7.ordT 5 [1,4,3])
     · rw [hl] at hl2;cases hl2
   · refine ⟨none,0,0,(e:Int),rfl,?_⟩;refine mdir (H5.mv 1) ?_;refine (kD W (H5.mv 1)).mono ?_;rintro v h4 (⟨ks2,ka2,kc2,hl2,rfl,H6⟩ | ⟨e2,hl2,_,rfl,H6⟩)
     · rw [hl] at hl2;cases hl2
     · rw [hl] at hl2;cases hl2;refine ⟨none,0,0,(e:Int),rfl,?_⟩;refine eR (aH (H6.mv 2)) hnl hnm fun b hc=>gm hc ?_;refine mdir H6 ?_;rw [eM,af rfl,az,aa,show ((e:Int)!=(e:Int))=false by rw [bne_self_eq_false],aa,show ((((0:Nat):Int))!=((0:Nat):Int))=false from rfl,aa];refine ⟨fun st hh=>st=0∧aD (bp m A::co f A::aL 9 1 da A.dirs.length dc ((A.dirs.map (·.name)).map Value.string)::F) hh,fun _ _=>0,⟨rfl,H6⟩,?_⟩;rintro st h5 ⟨rfl,H7⟩;rw [show decide ((0:Int)<((0:Nat):Int))=false from rfl,aa];exact next h5 (H7.ordT 3 [0,2,1])
 · rw [ae (by omega),aa];exact ⟨by trivial,H4.ordT 3 [2,0]⟩
end
end Go.Proofs.YtmemjbiijclbdaaGreat
