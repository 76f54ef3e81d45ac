/- Sorting texts: the library's contract as a contract over heaps. The sorted keys of a map of texts: maps.Keys and slices.Sorted as contracts over heaps. slices.Sorted(maps.Keys(m)). Maps that are cloned; the sorted keys of the second map type. The sorted keys of the map of directories. -/
import Derived.Test.YtdpaiiibndnanaaGreatDoorQpFwB
import Derived.Test.YtdpaiiibndnanaaGreatDoorQpLib
import Derived.Test.YtdpaiiibndnanaaGreatDoorQpTc
import Derived.Test.YtdpaiiibndnanaaGreatDoorQpTb
import Derived.Test.YtdpaiiibndnanaaGreatDoorQpClone
namespace Go.Proofs.YtdpaiiibndnanaaGreatDoor
open Go.Proofs.Tryz (prog)
open List (map_append getElem?_take getElem?_eq_none le_antisymm)
open Go Go.RowKit Go.Sort
set_option linter.unusedVariables false
set_option linter.unusedSimpArgs false
def hY (ss:List ByteArray):List ByteArray:=((ss.map fun s=>s.data.toList).mergeSort fun x y=>decide (x≤y)).map fun l=>⟨l.toArray⟩
theorem ry {h:Heap} {F:List aF} {b c:Nat} {ss:List ByteArray} (H:aG (aQ 9 1 (some ⟨b,0,none⟩) ss.length c (ss.map Value.string)::F) h) (hsz:ss.length<4611686018427387904) :
  aE prog 144 [.slice (some ⟨b,0,none⟩) ss.length c] h fun v h'=>v=.tuple #[]∧aG (aQ 9 1 (some ⟨b,0,none⟩) ss.length c ((hY ss).map Value.string)::F) h':=by
 refine ⟨by kernel_rfl,fun w hw=>?_⟩
 subst hw
 obtain ⟨hl,⟨h1,_⟩ | ⟨b',cells,fr,h1,hlc,hcm,hcs,hfr,ht,H2⟩⟩:=dB H
 · cases h1
 · simp only [Option.some.injEq,Addr.mk.injEq,and_true] at h1;subst h1;have hb:=H2.get;have hlt:=(Array.getElem?_eq_some_iff.1 hb).1;have hH:Go.Sort.Holds encStr w b 0 (ss.map fun s=>s.data.toList).toArray:=by
    intro j hj;simp only [List.size_toArray,aq] at hj;have hcj:cells[j]? = some (.string ss[j]):=by
     have h2:(cells.toList.take (ss.length*1))[j]? = (ss.map Value.string)[j]? := by rw [ht]
     rw [getElem?_take,an (by omega),List.getElem?_map,ai hj] at h2;simpa using h2
    refine ⟨?_,?_⟩
    · rw [dU,cm hb,Nat.zero_add,hcj];simp [hj]
    · rw [mn,gY,hb];have hjs:j<cells.size:=by
       rw [Array.getElem?_eq_some_iff] at hcj;exact hcj.1
      have:=hfr j hjs;obtain ⟨lo,hi⟩:=fr;simp only at this ⊢;simp;omega
   have:=Tryz.slices_Sort_string b 0 c (ss.map fun s=>s.data.toList) w hH hlt (by simpa using hsz);rw [aq] at this;refine callsIn_wide.2 (this.mono ?_);rintro e w' ⟨rfl,n,os,rfl⟩;refine ⟨_,rfl,⟨rfl,?_⟩,⟨rfl,rfl,rfl⟩⟩;generalize hD:((ss.map fun s=>s.data.toList).mergeSort fun x y=>decide (x≤y))=D;have hDl:D.length=ss.length:=by rw [← hD,List.length_mergeSort,aq]
   have hS:hY ss=D.map fun l=>⟨l.toArray⟩:=by rw [← hD]; rfl
   have hup:aG (pt b (.cells (putCells encStr 0 D.toArray cells) 9 fr)::F) (grow (putRow encStr (Sort.ahead w n) b 0 D.toArray) os).heap:=by
    refine H2.upd _ ?_ ?_
    · show ((w.heap.modify b (onCells (putCells encStr 0 D.toArray)))++os)[b]? = _;rw [Array.getElem?_append_left (by simpa using hlt),Array.getElem?_modify];simp [hb,onCells]
    · intro k hk hks;show ((w.heap.modify b (onCells (putCells encStr 0 D.toArray)))++os)[k]? = _;rw [Array.getElem?_append_left (by simpa using hks),Array.getElem?_modify];simp [Ne.symm hk]
   have hcsz:(putCells encStr 0 D.toArray cells).size=cells.size:=by simp [putCells]
   refine fe hup (by rw [hcsz]; exact hfr) hlc hcm (by rw [hcsz]; exact hcs) ?_;apply List.ext_getElem?;intro j;rw [getElem?_take,hS,List.getElem?_map,List.getElem?_map];by_cases hj:j<ss.length
   · rw [an (by omega),ai (by omega:j<D.length)];have hjc:j<cells.size:=by omega
     simp [putCells,hjc,hDl,hj]
   · rw [am (by omega),getElem?_eq_none (by omega:D.length≤j)]
     rfl
theorem fP {a b:List ByteArray} (h:a.Perm b):hY a=hY b:=by
 unfold hY
 congr 1
 have hp:=h.map fun s:ByteArray=>s.data.toList
 have tr:∀ x y z:List UInt8,decide (x≤y)=true→decide (y≤z)=true→decide (x≤z)=true:=fun x y z h1 h2=>by
  simp only [decide_eq_true_eq] at h1 h2 ⊢;exact List.le_trans h1 h2
 have to:∀ x y:List UInt8,(decide (x≤y)||decide (y≤x))=true:=fun x y=>by
  simp only [Bool.or_eq_true,decide_eq_true_eq];exact List.le_total x y
 refine List.Perm.eq_of_pairwise (le:=fun x y=>decide (x≤y)=true) ?_ (List.pairwise_mergeSort tr to _) (List.pairwise_mergeSort tr to _) (((List.mergeSort_perm _ _).trans hp).trans (List.mergeSort_perm _ _).symm)
 intro x y _ _ h1 h2
 simp only [decide_eq_true_eq] at h1 h2
 exact le_antisymm h1 h2
open Go Go.RowKit Go.MapKept
theorem xx {yv:Value} {cb mb:Nat} {m:List (ByteArray×Value)} {es:Array MapEntry} {clock:Nat} {h:Heap} (hm:ft aS es clock m) (G:List ByteArray→List aF) (Out:Heap→Prop)
  (start:aG (pt cb (.cells #[.map (some mb)] 174 (0,0))::pt mb (.map es clock)::G []) h)
  (round:∀ (r:Nat) (o:Obj) done k h2,done.length<m.length→aG (pt cb (.cells #[.map (some mb)] 174 (0,0))::pt mb (.map es clock)::pt r o::G done) h2→
   du prog yv [.string k] h2 fun r' h3=>∃ go,r'=.bool go∧(go=true→aG (pt cb (.cells #[.map (some mb)] 174 (0,0))::pt mb (.map es clock)::pt r o::G (done++[k])) h3)∧(go=false→Out h3))
  (fin:∀ ks h2,ks.Perm (m.map (·.1))→aG (pt cb (.cells #[.map (some mb)] 174 (0,0))::pt mb (.map es clock)::G ks) h2→Out h2) :
  aE prog 145 [yv,.pointer (some ⟨cb,0,none⟩)] h fun v h'=>v=.tuple #[]∧Out h':=by
 apply Ci.ap
 unfold GO
 refine ⟨.map (some mb),by rw [cm start.get]; rfl,?_⟩
 show DM (.map (some mb)) _
 rw [cM]
 have hn:=hm.1.2.1
 refine kL (k:=9) (e:=178) (by kernel_rfl) start (start.mv 1).get fun r h1 H1=>?_
 rw [bo]
 refine ⟨fun _ h2=>∃ seen done c0,aG (pt r (.mapIter (some mb) clock seen c0)::pt cb (.cells #[.map (some mb)] 174 (0,0))::pt mb (.map es clock)::G (done.map fun e:MapEntry=>kS e.key)) h2∧dV es seen done∧clock≤c0,
  fun _ h2=>dS ⟨r,0,none⟩ h2,⟨#[],[],clock,H1,dV.start es,ax _⟩,?_⟩
 rintro _ h2 ⟨seen,done,c0,H2,hw,hc⟩
 have hmb:=(H2.mv 2).get
 refine oW H2 hmb hm.1.1 hc ?_ ?_
 · intro h0;refine .inl ⟨rfl,rfl,fin (done.map fun e:MapEntry=>kS e.key) h2 ?_ H2.drop⟩;rw [← hm.keysOf];exact (hw.fin h0).map _
 · intro e he h3 H3;have hmb3:=(H3.mv 2).get;have hee:=dV.mem he;refine .inr ⟨_,_,rfl,?_⟩;refine mV H3 hmb3 hee hn ?_;refine ⟨kS e.key,e.val,by rw [← hm.strKey hee],?_⟩;have hdl:(done.map fun e:MapEntry=>kS e.key).length<m.length:=by
    have h1:=hw.perm.length_eq;have h2:0<(leftOf es seen).toList.length:=List.length_pos_of_mem he;rw [ao] at h1;rw [aq,← hm.size];simp only [Array.length_toList] at h1 h2;omega
   refine (round r (.mapIter (some mb) clock (seen.push e.born) clock) (done.map fun e:MapEntry=>kS e.key) (kS e.key) h3 hdl ((H3.mv 2).mv 2)).mono ?_;rintro r' h4 ⟨go,rfl,hgo,hstop⟩;rw [bO]
   cases go with
   | false=>exact ⟨rfl,hstop rfl⟩
   | true=>
     rw [aB,ab];have H4:=(hgo rfl).mv 2;refine ⟨⟨seen.push e.born,done++[e],clock,?_,hw.step hn he,ax _⟩,?_⟩
     · rw [map_append];exact H4
     · have a1:dS ⟨r,0,none⟩ h4=(leftOf es (seen.push e.born)).size:=by
        unfold dS;simp only [H4.get,(H4.mv 2).get]
       have a2:dS ⟨r,0,none⟩ h2=(leftOf es seen).size:=by
        unfold dS;simp only [H2.get,hmb]
       show dS ⟨r,0,none⟩ h4<dS ⟨r,0,none⟩ h2;rw [a1,a2];exact dV.less hn he
theorem Io:prog.underlying 116=some (.slice 9):=by kernel_rfl
theorem CS:d8 prog 116=true:=by kernel_rfl
theorem Fz:gj prog 9 16=true:=by kernel_rfl
theorem rF {m0:Option Nat} {h:Heap} {F:List aF} (H:aG F h):aE prog 109 [.map m0] h fun v h'=>∃ b,v=.func (.func 145) #[] #[.pointer (some ⟨b,0,none⟩)]∧aG (pt b (.cells #[.map m0] 174 (0,0))::F) h':=by
 apply CG.ap
 unfold Hl
 exact aW H fun b h1 H1=>⟨b,rfl,H1⟩
def lq (b:Nat) (done:List ByteArray):aF:=pZ fun q:Option Addr×Nat×Nat=>bP [pt b (.cells #[.slice q.1 q.2.1 q.2.2] 116 (0,0)),aQ 9 1 q.1 q.2.1 q.2.2 (done.map Value.string)]
theorem xm {cb mb:Nat} {m:List (ByteArray×Value)} {h:Heap} {F:List aF} (H:aG (pt cb (.cells #[.map (some mb)] 174 (0,0))::bT aS mb m::F) h) (hmax:m.length<1099511627776) :
  aE prog 169 [.slice none 0 0,.func (.func 145) #[] #[.pointer (some ⟨cb,0,none⟩)]] h fun v h'=>∃ (a:Option Addr) (c:Nat) (ks:List ByteArray),ks.Perm (m.map (·.1))∧v=.slice a ks.length c∧aG (aQ 9 1 a ks.length c (ks.map Value.string)::bT aS mb m::F) h':=by
 apply vZ.ap
 unfold EO
 refine aW H fun b0 h1 H1=>?_
 obtain ⟨es,clock,hm,H2⟩:=fZ (H1.mv 2)
 intro rec hrec hy
 refine kE ?_
 have H3:=(H2.push (.deferred (some []))).push (rec .ready none)
 rw [Array.size_push] at H3
 have Hs:aG (pt cb (.cells #[.map (some mb)] 174 (0,0))::pt mb (.map es clock)::pt (h1.size+1) (rec .ready none)::pt h1.size (.deferred (some []))::lq b0 []::F) ((h1.push (.deferred (some []))).push (rec .ready none)):=by
  have K:=bR 9 1 (H3.mv 3);have K2:=K.mv 1;have K3:aG ([pt b0 (.cells #[.slice none 0 0] 116 (0,0)),aQ 9 1 none 0 0 []]++(pt (h1.size+1) (rec .ready none)::pt h1.size (.deferred (some []))::pt mb (.map es clock)::pt cb (.cells #[.map (some mb)] 174 (0,0))::F)) ((h1.push (.deferred (some []))).push (rec .ready none)):=K2;have K4:aG (lq b0 []::(pt (h1.size+1) (rec .ready none)::pt h1.size (.deferred (some []))::pt mb (.map es clock)::pt cb (.cells #[.map (some mb)] 174 (0,0))::F)) ((h1.push (.deferred (some []))).push (rec .ready none)):=bD.2 ⟨(none,0,0),K3.shut⟩;exact (((K4.mv 2).mv 2).mv 3).mv 4
 refine (xx hm (fun done=>pt (h1.size+1) (rec .ready none)::pt h1.size (.deferred (some []))::lq b0 done::F)
  (fun h2=>∃ ks:List ByteArray,ks.Perm (m.map (·.1))∧aG (pt (h1.size+1) (rec .ready none)::pt h1.size (.deferred (some []))::lq b0 ks::pt mb (.map es clock)::F) h2) Hs ?_ ?_).mono ?_
 · intro r o done k h4 hdl H4;refine kD ?_;have hL:=(H4.mv 3).get;refine hy _ _ _ rfl hL ⟨k,rfl,hL,?_⟩;have H5:=((H4.mv 3).set (rec .busy none)).mv 5;obtain ⟨⟨la,ll,lc⟩,H6⟩:=bD.1 H5;have H7:=H6.open;obtain ⟨hll,hllc,hlcm⟩:=dA H7.drop;simp only [aq,Nat.mul_one] at hll hllc hlcm;refine ⟨.slice la ll lc,by rw [cm H7.get]; rfl,?_⟩;show aZ (.slice la ll lc) _;rw [aI];refine aW H7 fun b1 h8 H8=>?_;have hr:cv h8 (some ⟨b1,0,none⟩) [.string k]:=by
    intro j v hv;rw [dH H8.get];simpa using hv
   refine gr Io CS Fz (H8.mv 2) (bJ hr rfl) (by intro u hu; simp at hu; subst hu; rfl) (by omega) fun a' c' h9 _ H9=>?_;rw [aI];simp only [aP];refine jW (H9.mv 2) Nat.zero_lt_one (eD 1 0 (by decide)) fun h10 H10=>?_;have H11:=H10.mv 3;refine ⟨H11.get,true,rfl,fun _=>?_,fun e=>by cases e⟩;have H12:=((((H11.set (rec .ready none)).mv 3).drop).mv 2).mv 2;have H13:aG ([pt b0 (.cells #[.slice a' (ll+1) c'] 116 (0,0)),aQ 9 1 a' (ll+1) c' ((done++[k]).map Value.string)]++(pt (h1.size+1) (rec .ready none)::pt cb (.cells #[.map (some mb)] 174 (0,0))::pt mb (.map es clock)::pt r o::pt h1.size (.deferred (some []))::F)) (h10.setIfInBounds (h1.size+1) (rec .ready none)):=by
    rw [map_append];exact H12
   have H14:aG (lq b0 (done++[k])::(pt (h1.size+1) (rec .ready none)::pt cb (.cells #[.map (some mb)] 174 (0,0))::pt mb (.map es clock)::pt r o::pt h1.size (.deferred (some []))::F)) (h10.setIfInBounds (h1.size+1) (rec .ready none)):=bD.2 ⟨(a',ll+1,c'),H13.shut⟩;exact ((((H14.mv 5).mv 2).mv 5).mv 5).mv 5
 · intro ks h4 hp H4;exact ⟨ks,hp,(((H4.mv 1).mv 4).mv 4).mv 4 |> fun hh=>(((H4.drop.mv 3).mv 3).mv 3)⟩
 · rintro v h4 ⟨_,ks,hp,H4⟩;refine ⟨.ready,none,H4.get,by decide,rfl,?_⟩;have H5:=(H4.set (rec .exhausted none)).mv 2;obtain ⟨⟨la,ll,lc⟩,H6⟩:=bD.1 H5;have H7:=H6.open;obtain ⟨hll,hllc,hlcm⟩:=dA H7.drop;simp only [aq,Nat.mul_one] at hll hllc hlcm;refine ⟨.slice la ll lc,by rw [cm H7.get]; rfl,?_⟩;show aZ (.slice la ll lc) _;rw [aI];have H8:=H7.mv 3;subst hll;refine ⟨H8.get,la,lc,ks,hp,rfl,?_⟩;have H9:=(H8.set (.deferred none)).drop.drop;exact (ey hm (((H9.mv 1).drop).mv 1)).mv 1
theorem rG {cb mb:Nat} {m:List (ByteArray×Value)} {h:Heap} {F:List aF} (H:aG (pt cb (.cells #[.map (some mb)] 174 (0,0))::bT aS mb m::F) h) (hmax:m.length<1099511627776) :
  aE prog 108 [.func (.func 145) #[] #[.pointer (some ⟨cb,0,none⟩)]] h fun v h'=>∃ (a:Option Addr) (c:Nat),v=.slice a m.length c∧aG (aQ 9 1 a m.length c ((hY (m.map (·.1))).map Value.string)::bT aS mb m::F) h':=by
 apply we.ap
 unfold EZ
 have step:aE prog 143 [.func (.func 145) #[] #[.pointer (some ⟨cb,0,none⟩)]] h fun v h'=>∃ (a:Option Addr) (c:Nat) (ks:List ByteArray),ks.Perm (m.map (·.1))∧v=.slice a ks.length c∧aG (aQ 9 1 a ks.length c (ks.map Value.string)::bT aS mb m::F) h':=by
  apply wb.ap;unfold EV;refine (xm H hmax).mono ?_;rintro v h1 ⟨a,c,ks,hp,rfl,H1⟩;rw [aI];exact ⟨a,c,ks,hp,rfl,H1⟩
 refine step.mono ?_
 rintro v h1 ⟨a,c,ks,hp,rfl,H1⟩
 rw [aI]
 have hkl:ks.length=m.length:=by rw [hp.length_eq,aq]
 cases a with
 | none=>
   have hk0:ks=[]:=by
    have h0:ks.map Value.string=[]:=aH H1;exact List.map_eq_nil_iff.1 h0
   subst hk0;have hm0:m.length=0:=by simpa using hkl.symm
   have hc:aE prog 144 [.slice none 0 c] h1 fun v h'=>v=.tuple #[]∧h'=h1:=by
    refine ⟨by kernel_rfl,fun w hw=>callsIn_wide.2 ((Tryz.slices_Sort_string_none none c w).mono ?_)⟩;rintro e w' ⟨rfl,rfl⟩;exact ⟨_,rfl,⟨rfl,hw⟩,.refl w'⟩
   refine hc.mono ?_;rintro v h2 ⟨rfl,rfl⟩;refine ⟨rfl,none,c,by rw [hm0]; rfl,?_⟩;rw [hm0,← fP hp,show hY []=[] from by simp [hY]];exact H1
 | some a=>
   obtain ⟨hl,⟨e1,_⟩ | ⟨b,cells,fr,e1,_⟩⟩:=dB H1
   · cases e1
   · simp only [Option.some.injEq] at e1;subst e1;refine (ry H1 (by omega)).mono ?_;rintro v h2 ⟨rfl,H2⟩;refine ⟨rfl,some ⟨b,0,none⟩,c,by rw [hkl],?_⟩;rw [← hkl,← fP hp];exact H2
theorem nd {κ:Type} [DecidableEq κ] {E:pH κ} {b:Nat} {m:List (κ×Value)} {h:Heap} {F:List aF} (H:aG (bT E b m::F) h) :
  aE prog 104 [.map (some b)] h fun v h'=>∃ b',v=.map (some b')∧aG (bT E b' m::bT E b m::F) h':=by
 obtain ⟨es,clock,hm,H2⟩:=fZ H
 refine ⟨by kernel_rfl,fun w hw=>callsIn_wide.2 ?_⟩
 subst hw
 refine (Tryz.maps_Clone104 b es clock w H2.get).mono ?_
 rintro e w' ⟨rfl,rfl⟩
 have H3:=H2.push (.map es clock)
 exact ⟨_,rfl,⟨w.heap.size,rfl,ey hm ((ey hm (H3.mv 1)).mv 1)⟩,⟨rfl,rfl,rfl⟩⟩
theorem xv {yv:Value} {cb mb:Nat} {m:List (ByteArray×Value)} {es:Array MapEntry} {clock:Nat} {h:Heap} (hm:ft aS es clock m) (G:List ByteArray→List aF) (Out:Heap→Prop)
  (start:aG (pt cb (.cells #[.map (some mb)] 87 (0,0))::pt mb (.map es clock)::G []) h)
  (round:∀ (r:Nat) (o:Obj) done k h2,done.length<m.length→aG (pt cb (.cells #[.map (some mb)] 87 (0,0))::pt mb (.map es clock)::pt r o::G done) h2→
   du prog yv [.string k] h2 fun r' h3=>∃ go,r'=.bool go∧(go=true→aG (pt cb (.cells #[.map (some mb)] 87 (0,0))::pt mb (.map es clock)::pt r o::G (done++[k])) h3)∧(go=false→Out h3))
  (fin:∀ ks h2,ks.Perm (m.map (·.1))→aG (pt cb (.cells #[.map (some mb)] 87 (0,0))::pt mb (.map es clock)::G ks) h2→Out h2) :
  aE prog 150 [yv,.pointer (some ⟨cb,0,none⟩)] h fun v h'=>v=.tuple #[]∧Out h':=by
 apply Cf.ap
 unfold GM
 refine ⟨.map (some mb),by rw [cm start.get]; rfl,?_⟩
 show DM (.map (some mb)) _
 rw [cM]
 have hn:=hm.1.2.1
 refine kL (k:=9) (e:=170) (by kernel_rfl) start (start.mv 1).get fun r h1 H1=>?_
 rw [bo]
 refine ⟨fun _ h2=>∃ seen done c0,aG (pt r (.mapIter (some mb) clock seen c0)::pt cb (.cells #[.map (some mb)] 87 (0,0))::pt mb (.map es clock)::G (done.map fun e:MapEntry=>kS e.key)) h2∧dV es seen done∧clock≤c0,
  fun _ h2=>dS ⟨r,0,none⟩ h2,⟨#[],[],clock,H1,dV.start es,ax _⟩,?_⟩
 rintro _ h2 ⟨seen,done,c0,H2,hw,hc⟩
 have hmb:=(H2.mv 2).get
 refine oW H2 hmb hm.1.1 hc ?_ ?_
 · intro h0;refine .inl ⟨rfl,rfl,fin (done.map fun e:MapEntry=>kS e.key) h2 ?_ H2.drop⟩;rw [← hm.keysOf];exact (hw.fin h0).map _
 · intro e he h3 H3;have hmb3:=(H3.mv 2).get;have hee:=dV.mem he;refine .inr ⟨_,_,rfl,?_⟩;refine mV H3 hmb3 hee hn ?_;refine ⟨kS e.key,e.val,by rw [← hm.strKey hee],?_⟩;have hdl:(done.map fun e:MapEntry=>kS e.key).length<m.length:=by
    have h1:=hw.perm.length_eq;have h2:0<(leftOf es seen).toList.length:=List.length_pos_of_mem he;rw [ao] at h1;rw [aq,← hm.size];simp only [Array.length_toList] at h1 h2;omega
   refine (round r (.mapIter (some mb) clock (seen.push e.born) clock) (done.map fun e:MapEntry=>kS e.key) (kS e.key) h3 hdl ((H3.mv 2).mv 2)).mono ?_;rintro r' h4 ⟨go,rfl,hgo,hstop⟩;rw [bO]
   cases go with
   | false=>exact ⟨rfl,hstop rfl⟩
   | true=>
     rw [aB,ab];have H4:=(hgo rfl).mv 2;refine ⟨⟨seen.push e.born,done++[e],clock,?_,hw.step hn he,ax _⟩,?_⟩
     · rw [map_append];exact H4
     · have a1:dS ⟨r,0,none⟩ h4=(leftOf es (seen.push e.born)).size:=by
        unfold dS;simp only [H4.get,(H4.mv 2).get]
       have a2:dS ⟨r,0,none⟩ h2=(leftOf es seen).size:=by
        unfold dS;simp only [H2.get,hmb]
       show dS ⟨r,0,none⟩ h4<dS ⟨r,0,none⟩ h2;rw [a1,a2];exact dV.less hn he
theorem xK {m0:Option Nat} {h:Heap} {F:List aF} (H:aG F h):aE prog 122 [.map m0] h fun v h'=>∃ b,v=.func (.func 150) #[] #[.pointer (some ⟨b,0,none⟩)]∧aG (pt b (.cells #[.map m0] 87 (0,0))::F) h':=by
 apply CB.ap
 unfold Hh
 exact aW H fun b h1 H1=>⟨b,rfl,H1⟩
theorem vn {cb mb:Nat} {m:List (ByteArray×Value)} {h:Heap} {F:List aF} (H:aG (pt cb (.cells #[.map (some mb)] 87 (0,0))::bT aS mb m::F) h) (hmax:m.length<1099511627776) :
  aE prog 169 [.slice none 0 0,.func (.func 150) #[] #[.pointer (some ⟨cb,0,none⟩)]] h fun v h'=>∃ (a:Option Addr) (c:Nat) (ks:List ByteArray),ks.Perm (m.map (·.1))∧v=.slice a ks.length c∧aG (aQ 9 1 a ks.length c (ks.map Value.string)::bT aS mb m::F) h':=by
 apply vZ.ap
 unfold EO
 refine aW H fun b0 h1 H1=>?_
 obtain ⟨es,clock,hm,H2⟩:=fZ (H1.mv 2)
 intro rec hrec hy
 refine kE ?_
 have H3:=(H2.push (.deferred (some []))).push (rec .ready none)
 rw [Array.size_push] at H3
 have Hs:aG (pt cb (.cells #[.map (some mb)] 87 (0,0))::pt mb (.map es clock)::pt (h1.size+1) (rec .ready none)::pt h1.size (.deferred (some []))::lq b0 []::F) ((h1.push (.deferred (some []))).push (rec .ready none)):=by
  have K:=bR 9 1 (H3.mv 3);have K2:=K.mv 1;have K3:aG ([pt b0 (.cells #[.slice none 0 0] 116 (0,0)),aQ 9 1 none 0 0 []]++(pt (h1.size+1) (rec .ready none)::pt h1.size (.deferred (some []))::pt mb (.map es clock)::pt cb (.cells #[.map (some mb)] 87 (0,0))::F)) ((h1.push (.deferred (some []))).push (rec .ready none)):=K2;have K4:aG (lq b0 []::(pt (h1.size+1) (rec .ready none)::pt h1.size (.deferred (some []))::pt mb (.map es clock)::pt cb (.cells #[.map (some mb)] 87 (0,0))::F)) ((h1.push (.deferred (some []))).push (rec .ready none)):=bD.2 ⟨(none,0,0),K3.shut⟩;exact (((K4.mv 2).mv 2).mv 3).mv 4
 refine (xv hm (fun done=>pt (h1.size+1) (rec .ready none)::pt h1.size (.deferred (some []))::lq b0 done::F)
  (fun h2=>∃ ks:List ByteArray,ks.Perm (m.map (·.1))∧aG (pt (h1.size+1) (rec .ready none)::pt h1.size (.deferred (some []))::lq b0 ks::pt mb (.map es clock)::F) h2) Hs ?_ ?_).mono ?_
 · intro r o done k h4 hdl H4;refine kD ?_;have hL:=(H4.mv 3).get;refine hy _ _ _ rfl hL ⟨k,rfl,hL,?_⟩;have H5:=((H4.mv 3).set (rec .busy none)).mv 5;obtain ⟨⟨la,ll,lc⟩,H6⟩:=bD.1 H5;have H7:=H6.open;obtain ⟨hll,hllc,hlcm⟩:=dA H7.drop;simp only [aq,Nat.mul_one] at hll hllc hlcm;refine ⟨.slice la ll lc,by rw [cm H7.get]; rfl,?_⟩;show aZ (.slice la ll lc) _;rw [aI];refine aW H7 fun b1 h8 H8=>?_;have hr:cv h8 (some ⟨b1,0,none⟩) [.string k]:=by
    intro j v hv;rw [dH H8.get];simpa using hv
   refine gr Io CS Fz (H8.mv 2) (bJ hr rfl) (by intro u hu; simp at hu; subst hu; rfl) (by omega) fun a' c' h9 _ H9=>?_;rw [aI];simp only [aP];refine jW (H9.mv 2) Nat.zero_lt_one (eD 1 0 (by decide)) fun h10 H10=>?_;have H11:=H10.mv 3;refine ⟨H11.get,true,rfl,fun _=>?_,fun e=>by cases e⟩;have H12:=((((H11.set (rec .ready none)).mv 3).drop).mv 2).mv 2;have H13:aG ([pt b0 (.cells #[.slice a' (ll+1) c'] 116 (0,0)),aQ 9 1 a' (ll+1) c' ((done++[k]).map Value.string)]++(pt (h1.size+1) (rec .ready none)::pt cb (.cells #[.map (some mb)] 87 (0,0))::pt mb (.map es clock)::pt r o::pt h1.size (.deferred (some []))::F)) (h10.setIfInBounds (h1.size+1) (rec .ready none)):=by
    rw [map_append];exact H12
   have H14:aG (lq b0 (done++[k])::(pt (h1.size+1) (rec .ready none)::pt cb (.cells #[.map (some mb)] 87 (0,0))::pt mb (.map es clock)::pt r o::pt h1.size (.deferred (some []))::F)) (h10.setIfInBounds (h1.size+1) (rec .ready none)):=bD.2 ⟨(a',ll+1,c'),H13.shut⟩;exact ((((H14.mv 5).mv 2).mv 5).mv 5).mv 5
 · intro ks h4 hp H4;exact ⟨ks,hp,(((H4.mv 1).mv 4).mv 4).mv 4 |> fun hh=>(((H4.drop.mv 3).mv 3).mv 3)⟩
 · rintro v h4 ⟨_,ks,hp,H4⟩;refine ⟨.ready,none,H4.get,by decide,rfl,?_⟩;have H5:=(H4.set (rec .exhausted none)).mv 2;obtain ⟨⟨la,ll,lc⟩,H6⟩:=bD.1 H5;have H7:=H6.open;obtain ⟨hll,hllc,hlcm⟩:=dA H7.drop;simp only [aq,Nat.mul_one] at hll hllc hlcm;refine ⟨.slice la ll lc,by rw [cm H7.get]; rfl,?_⟩;show aZ (.slice la ll lc) _;rw [aI];have H8:=H7.mv 3;subst hll;refine ⟨H8.get,la,lc,ks,hp,rfl,?_⟩;have H9:=(H8.set (.deferred none)).drop.drop;exact (ey hm (((H9.mv 1).drop).mv 1)).mv 1
theorem vo {cb mb:Nat} {m:List (ByteArray×Value)} {h:Heap} {F:List aF} (H:aG (pt cb (.cells #[.map (some mb)] 87 (0,0))::bT aS mb m::F) h) (hmax:m.length<1099511627776) :
  aE prog 108 [.func (.func 150) #[] #[.pointer (some ⟨cb,0,none⟩)]] h fun v h'=>∃ (a:Option Addr) (c:Nat),v=.slice a m.length c∧aG (aQ 9 1 a m.length c ((hY (m.map (·.1))).map Value.string)::bT aS mb m::F) h':=by
 apply we.ap
 unfold EZ
 have step:aE prog 143 [.func (.func 150) #[] #[.pointer (some ⟨cb,0,none⟩)]] h fun v h'=>∃ (a:Option Addr) (c:Nat) (ks:List ByteArray),ks.Perm (m.map (·.1))∧v=.slice a ks.length c∧aG (aQ 9 1 a ks.length c (ks.map Value.string)::bT aS mb m::F) h':=by
  apply wb.ap;unfold EV;refine (vn H hmax).mono ?_;rintro v h1 ⟨a,c,ks,hp,rfl,H1⟩;rw [aI];exact ⟨a,c,ks,hp,rfl,H1⟩
 refine step.mono ?_
 rintro v h1 ⟨a,c,ks,hp,rfl,H1⟩
 rw [aI]
 have hkl:ks.length=m.length:=by rw [hp.length_eq,aq]
 cases a with
 | none=>
   have hk0:ks=[]:=by
    have h0:ks.map Value.string=[]:=aH H1;exact List.map_eq_nil_iff.1 h0
   subst hk0;have hm0:m.length=0:=by simpa using hkl.symm
   have hc:aE prog 144 [.slice none 0 c] h1 fun v h'=>v=.tuple #[]∧h'=h1:=by
    refine ⟨by kernel_rfl,fun w hw=>callsIn_wide.2 ((Tryz.slices_Sort_string_none none c w).mono ?_)⟩;rintro e w' ⟨rfl,rfl⟩;exact ⟨_,rfl,⟨rfl,hw⟩,.refl w'⟩
   refine hc.mono ?_;rintro v h2 ⟨rfl,rfl⟩;refine ⟨rfl,none,c,by rw [hm0]; rfl,?_⟩;rw [hm0,← fP hp,show hY []=[] from by simp [hY]];exact H1
 | some a=>
   obtain ⟨hl,⟨e1,_⟩ | ⟨b,cells,fr,e1,_⟩⟩:=dB H1
   · cases e1
   · simp only [Option.some.injEq] at e1;subst e1;refine (ry H1 (by omega)).mono ?_;rintro v h2 ⟨rfl,H2⟩;refine ⟨rfl,some ⟨b,0,none⟩,c,by rw [hkl],?_⟩;rw [← hkl,← fP hp];exact H2
end Go.Proofs.YtdpaiiibndnanaaGreatDoor
