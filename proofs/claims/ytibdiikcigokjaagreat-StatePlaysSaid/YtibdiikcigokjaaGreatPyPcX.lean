/-
 DERIVED: THE SHELF's CONTRACTS AT THIS DUMP,IN PLAIN WORDS (tools/lay-plain.mjs out of 'YtibdiikcigokjaaGreatTrySortI.lean',which tools/lay-shelf.mjs wrote): THE SAME DECLARATIONS UNDER THE SAME NAMES: 'import','namespace','open','def','theorem' AND NOTHING ELSE: no command of the shelf's: FOR A HAND-IN. Each laying: the table of numbers ('.._ren') and one theorem,a field a fact of the dump's own or the kernel's comparison; each contract: ONE APPLICATION.
-/
import Derived.Shelf.SlGeneric
import Derived.Shelf.SortM.Plain
import Derived.Shelf.SortM.SortNone
import Derived.Ground.SlgmProg
import Derived.Test.YtibdiikcigokjaaGreatProg
import Derived.Test.YtibdiikcigokjaaGreatPyMt1
import Derived.Test.YtibdiikcigokjaaGreatPyTs
import Derived.Test.YtibdiikcigokjaaGreatPyPbX
namespace Go.Proofs
open Go.Shelf
def Tryz.sortI117_ren:Go.Shelf.Ren:=⟨fun | 5=>117 | 8=>125 | 7=>171 | 19=>180 | 20=>181 | 10=>218 | 11=>219 | 12=>220 | 13=>221 | 14=>222 | 15=>223 | 16=>224 | 17=>225 | 18=>226 | 30=>246 | 31=>228 | 32=>229 | 33=>247 | 34=>248 | 35=>249 | 40=>254 | n=>n,fun | 23=>76 | 25=>2 | 3=>3 | 32=>51 | 22=>76 | 0=>0 | 44=>254 | 46=>187 | 4=>4 | 36=>248 | 35=>247 | 41=>241 | 5=>5 | 9=>9 | 53=>286 | 57=>289 | 63=>301 | 64=>204 | n=>n,fun | n=>n⟩
theorem Tryz.sortI117:Go.Proofs.SlLaysM.n5 prog Tryz.sortI117_ren:={
 mixed:=by kernel_rfl
 f5:=⟨Tryz.f117.name,by decide,Tryz.func117.trans (congrArg some (by kernel_rfl))⟩
 f7:=⟨Tryz.f171.name,by decide,Tryz.func171.trans (congrArg some (by kernel_rfl))⟩
 f8:=Tryz.func125.trans (congrArg some (by kernel_rfl))
 f10:=⟨Tryz.f218.name,by decide,Tryz.func218.trans (congrArg some (by kernel_rfl))⟩
 f11:=⟨Tryz.f219.name,by decide,Tryz.func219.trans (congrArg some (by kernel_rfl))⟩
 f12:=⟨Tryz.f220.name,by decide,Tryz.func220.trans (congrArg some (by kernel_rfl))⟩
 f13:=⟨Tryz.f221.name,by decide,Tryz.func221.trans (congrArg some (by kernel_rfl))⟩
 f14:=⟨Tryz.f222.name,by decide,Tryz.func222.trans (congrArg some (by kernel_rfl))⟩
 f15:=⟨Tryz.f223.name,by decide,Tryz.func223.trans (congrArg some (by kernel_rfl))⟩
 f16:=⟨Tryz.f224.name,by decide,Tryz.func224.trans (congrArg some (by kernel_rfl))⟩
 f17:=⟨Tryz.f225.name,by decide,Tryz.func225.trans (congrArg some (by kernel_rfl))⟩
 f18:=⟨Tryz.f226.name,by decide,Tryz.func226.trans (congrArg some (by kernel_rfl))⟩
 f19:=Tryz.func180.trans (congrArg some (by kernel_rfl))
 f20:=Tryz.func181.trans (congrArg some (by kernel_rfl))
 f30:=⟨Tryz.f246.name,by decide,Tryz.func246.trans (congrArg some (by kernel_rfl))⟩
 f31:=Tryz.func228.trans (congrArg some (by kernel_rfl))
 f32:=Tryz.func229.trans (congrArg some (by kernel_rfl))
 f33:=⟨Tryz.f247.name,by decide,Tryz.func247.trans (congrArg some (by kernel_rfl))⟩
 f34:=⟨Tryz.f248.name,by decide,Tryz.func248.trans (congrArg some (by kernel_rfl))⟩
 f35:=⟨Tryz.f249.name,by decide,Tryz.func249.trans (congrArg some (by kernel_rfl))⟩
 f40:=⟨Tryz.f254.name,by decide,Tryz.func254.trans (congrArg some (by kernel_rfl))⟩
 t0:=Tryz.underlying0
 a0:=Tryz.isAgg0
 z0:=Tryz.sizeOf0
 v0:=Tryz.zeroValue0
 t3:=Tryz.underlying3
 a3:=Tryz.isAgg3
 z3:=Tryz.sizeOf3
 v3:=Tryz.zeroValue3
 t4:=Tryz.underlying4
 a4:=Tryz.isAgg4
 z4:=Tryz.sizeOf4
 v4:=Tryz.zeroValue4
 t5:=Tryz.underlying5
 a5:=Tryz.isAgg5
 z5:=Tryz.sizeOf5
 v5:=Tryz.zeroValue5
 t9:=Tryz.underlying9
 a9:=Tryz.isAgg9
 z9:=Tryz.sizeOf9
 v9:=Tryz.zeroValue9
 t22:=Tryz.underlying76
 a22:=Tryz.isAgg76
 z22:=Tryz.sizeOf76
 v22:=Tryz.zeroValue76
 t23:=Tryz.underlying76
 a23:=Tryz.isAgg76
 z23:=Tryz.sizeOf76
 v23:=Tryz.zeroValue76
 t25:=Tryz.underlying2
 a25:=Tryz.isAgg2
 z25:=Tryz.sizeOf2
 v25:=Tryz.zeroValue2
 t32:=Tryz.underlying51
 a32:=Tryz.isAgg51
 z32:=Tryz.sizeOf51
 v32:=Tryz.zeroValue51
 t35:=Tryz.underlying247
 a35:=Tryz.isAgg247
 z35:=Tryz.sizeOf247
 v35:=Tryz.zeroValue247
 t36:=Tryz.underlying248
 a36:=Tryz.isAgg248
 z36:=Tryz.sizeOf248
 v36:=Tryz.zeroValue248
 t41:=Tryz.underlying241
 a41:=Tryz.isAgg241
 z41:=Tryz.sizeOf241
 v41:=Tryz.zeroValue241
 t44:=Tryz.underlying254
 a44:=Tryz.isAgg254
 z44:=Tryz.sizeOf254
 v44:=Tryz.zeroValue254
 t46:=Tryz.underlying187
 a46:=Tryz.isAgg187
 z46:=Tryz.sizeOf187
 v46:=Tryz.zeroValue187
 t53:=Tryz.underlying286
 a53:=Tryz.isAgg286
 z53:=Tryz.sizeOf286
 v53:=Tryz.zeroValue286
 t57:=Tryz.underlying289
 a57:=Tryz.isAgg289
 z57:=Tryz.sizeOf289
 v57:=Tryz.zeroValue289
 t63:=Tryz.underlying301
 a63:=Tryz.isAgg301
 z63:=Tryz.sizeOf301
 v63:=Tryz.zeroValue301
 t64:=Tryz.underlying204
 a64:=Tryz.isAgg204
 z64:=Tryz.sizeOf204
 v64:=Tryz.zeroValue204 }
open Go.RowKit Go.Sort in
theorem Tryz.slices_Sort_int117 (blk off cap:Nat) (zs:List Int) (w:World) (hH:Holds (Value.int .i64) w blk off zs.toArray) (hblk:blk<w.heap.size) (hsz:zs.length<4611686018427387904) :
 Calls prog 117 #[.slice (some ⟨blk,off,none⟩) zs.length cap] w fun e w'=>
  e=.returned (.tuple #[])∧∃ n os,w'=grow (putRow (Value.int .i64) (Sort.ahead w n) blk off (zs.mergeSort fun x y=>decide (x≤y)).toArray) os:=AnyM.slices_Sort_int Tryz.sortI117 blk off cap zs w hH hblk hsz
open Go.RowKit in
theorem Tryz.slices_Sort_int117_none (p:Option Addr) (cap:Nat) (w:World) :
 Calls prog 117 #[.slice p 0 cap] w fun e w'=>e=.returned (.tuple #[])∧w'=w:=AnyM.slices_Sort_int_none Tryz.sortI117 p cap w
end Go.Proofs
namespace Go.Proofs.YtibdiikcigokjaaGreat
open Go.Proofs.Tryz (prog)
open List (foldl_append map_append getElem?_map size_toArray getElem?_take getElem?_eq_none pairwise_mergeSort mergeSort_perm length_pos_of_mem filter_cons map_cons map_map map_nil mem_cons_self foldl_cons filter_append)
open Go Go.RowKit Go.MapKept
set_option linter.unusedVariables false
set_option linter.unusedSimpArgs false
def kI:Value→Int
 | .int _ n=>n
 | _=>0
theorem dZ.intKey {es:Array MapEntry} {clock:Nat} {m:List (Int×Value)} (hm:dZ (ey .i64) es clock m) {e:MapEntry} (he:e∈es.toList):e.key=.int .i64 (kI e.key):=by
 have:(e.key,e.val)∈es.toList.map (fun e:MapEntry=>(e.key,e.val)):=List.mem_map.2 ⟨e,he,rfl⟩
 rw [hm.2] at this
 obtain ⟨p,_,hp⟩:=List.mem_map.1 this
 have h1:e.key=.int .i64 p.1:=(congrArg Prod.fst hp).symm
 rw [h1]
 rfl
theorem dZ.keysI {es:Array MapEntry} {clock:Nat} {m:List (Int×Value)} (hm:dZ (ey .i64) es clock m):es.toList.map (fun e:MapEntry=>kI e.key)=m.map (·.1):=by
 have:=congrArg (List.map fun p:Value×Value=>kI p.1) hm.2
 simpa [map_map,Function.comp_def,ey,kI] using this
theorem dZ.pairsI {es:Array MapEntry} {clock:Nat} {m:List (Int×Value)} (hm:dZ (ey .i64) es clock m):es.toList.map (fun e:MapEntry=>(kI e.key,e.val))=m:=by
 have:=congrArg (List.map fun p:Value×Value=>(kI p.1,p.2)) hm.2
 simpa [map_map,Function.comp_def,ey,kI] using this
theorem Cw {P:Program} {S:Type} {ty:TypeId} {p mb:Nat} {m:List (Int×Value)} {es:Array MapEntry} {clock:Nat} (hm:dZ (ey .i64) es clock m) (st:List (Int×Value)→S) {G:List (Int×Value)→List aG} {End:S→Heap→Prop} {Body:(S→Heap→Prop)→S→Value→Heap→Prop} {h:Heap}
  (start:aD (pt p (.mapIter (some mb) clock #[] clock)::pt mb (.map es clock)::G []) h)
  (fin:∀ done h',done.Perm m→aD (pt mb (.map es clock)::G done) h'→End (st done) h')
  (body:∀ (o:Obj) done k v h' (again:S→Heap→Prop),(∃ rest,(done++(k,v)::rest).Perm m)→aD (pt p o::pt mb (.map es clock)::G done) h'→
   (∀ h'',aD (pt p o::pt mb (.map es clock)::G (done++[(k,v)])) h''→again (st (done++[(k,v)])) h'')→Body again (st done) (.tuple #[.int .i64 k,v]) h') :
  aU (fun again (s:S) h3=>bi P (Instr.next (.pointer (some ⟨p,0,none⟩)) false ty) h3 fun r2 h4=>(r2=.tuple #[.bool false]∧End s h4)∨
   (∃ k0 x1:Value,r2=.tuple #[.bool true,k0,x1]∧bi P (Instr.entry (.pointer (some ⟨p,0,none⟩))) h4 fun r3 h5=>Body again s r3 h5)) (st []) h:=by
 have hn:=hm.1.2.1
 refine ⟨fun s h2=>∃ seen done c0,s=st (done.map fun e:MapEntry=>(kI e.key,e.val))∧aD (pt p (.mapIter (some mb) clock seen c0)::pt mb (.map es clock)::G (done.map fun e:MapEntry=>(kI e.key,e.val))) h2∧cA es seen done∧clock≤c0,
  fun _ h2=>bU ⟨p,0,none⟩ h2,⟨#[],[],clock,rfl,start,cA.start es,av _⟩,?_⟩
 rintro _ h2 ⟨seen,done,c0,rfl,H2,hw,hc⟩
 have hmb:=(H2.mv 1).get
 refine kb H2 hmb hm.1.1 hc ?_ ?_
 · intro h0;refine .inl ⟨rfl,fin (done.map fun e:MapEntry=>(kI e.key,e.val)) h2 ?_ H2.drop⟩;rw [← hm.pairsI];exact (hw.fin h0).map _
 · intro e he h3 H3;have hmb3:=(H3.mv 1).get;have hee:=cA.mem he;refine .inr ⟨_,_,rfl,?_⟩;refine i4 H3 hmb3 hee hn ?_;rw [hm.intKey hee];refine body (.mapIter (some mb) clock (seen.push e.born) clock) (done.map fun e:MapEntry=>(kI e.key,e.val)) (kI e.key) e.val h3 _ ?_ H3 fun h4 H4=>⟨⟨seen.push e.born,done++[e],clock,?_,?_,hw.step hn he,av _⟩,?_⟩
   · refine ⟨(leftOf es (seen.push e.born)).toList.map fun e:MapEntry=>(kI e.key,e.val),?_⟩;have hp:=(hw.step hn he).perm.map fun e:MapEntry=>(kI e.key,e.val)
     rw [hm.pairsI] at hp;simpa using hp
   · rw [map_append]
     rfl
   · rw [map_append];exact H4
   · have a1:bU ⟨p,0,none⟩ h4=(leftOf es (seen.push e.born)).size:=by
      unfold bU;simp only [H4.get,(H4.mv 1).get]
     have a2:bU ⟨p,0,none⟩ h2=(leftOf es seen).size:=by
      unfold bU;simp only [H2.get,hmb]
     show bU ⟨p,0,none⟩ h4<bU ⟨p,0,none⟩ h2;rw [a1,a2];exact cA.less hn he
def gD (l:List Int):List Int:=l.mergeSort fun x y=>decide (x≤y)
theorem xB (l:List Int):(gD l).Perm l:=mergeSort_perm _ _
theorem B3 {l:List Int} {m:List Int} (hp:l.Perm m) (hm:m.Pairwise (· < ·)):gD l=m:=by
 have tr:∀ x y z:Int,decide (x≤y)=true→decide (y≤z)=true→decide (x≤z)=true:=fun x y z h1 h2=>by
  simp only [decide_eq_true_eq] at h1 h2 ⊢;omega
 have to:∀ x y:Int,(decide (x≤y)||decide (y≤x))=true:=fun x y=>by
  simp only [Bool.or_eq_true,decide_eq_true_eq];omega
 refine List.Perm.eq_of_pairwise (le:=fun x y=>decide (x≤y)=true) ?_ (pairwise_mergeSort tr to _) (hm.imp fun h=>by simp only [decide_eq_true_eq]; omega) ((mergeSort_perm _ _).trans hp)
 intro x y _ _ h1 h2
 simp only [decide_eq_true_eq] at h1 h2
 omega
theorem MV:prog.underlying 76=some (.slice 2):=by kernel_rfl
theorem In:fF prog 76=true:=by kernel_rfl
theorem KZ:gQ prog 2 8=true:=by kernel_rfl
open Go.Sort in
theorem Bx {h:Heap} {F:List aG} {a:Option Addr} {c:Nat} {zs:List Int} (H:aD (aL 2 1 a zs.length c (zs.map iv)::F) h) (hsz:zs.length<4611686018427387904) :
  aC prog 117 [.slice a zs.length c] h fun v h'=>v=.tuple #[]∧aD (aL 2 1 a zs.length c ((gD zs).map iv)::F) h':=by
 refine ⟨by kernel_rfl,fun w hw=>?_⟩
 subst hw
 obtain ⟨hl,⟨rfl,h0,rfl,h1,H2⟩ | ⟨b,cells,fr,rfl,hlc,hcm,hcs,hfr,ht,H2⟩⟩:=cV H
 · have hz:zs=[]:=List.map_eq_nil_iff.1 h1;subst hz;refine callsIn_wide.2 ((Tryz.slices_Sort_int117_none none 0 w).mono ?_);rintro e w' ⟨rfl,rfl⟩;refine ⟨_,rfl,⟨rfl,?_⟩,.refl _⟩;rw [show gD []=[] from by simp [gD]];exact H
 · have hb:=H2.get;have hlt:=(Array.getElem?_eq_some_iff.1 hb).1;have hH:Go.Sort.Holds (Value.int .i64) w b 0 zs.toArray:=by
    intro j hj;simp only [size_toArray] at hj;have hcj:cells[j]? = some (.int .i64 zs[j]):=by
     have h2:(cells.toList.take (zs.length*1))[j]? = (zs.map iv)[j]? := by rw [ht]
     rw [getElem?_take,al (by omega),getElem?_map,ah hj] at h2;simpa [iv] using h2
    refine ⟨?_,?_⟩
    · rw [cY,bD hb,Nat.zero_add,hcj];simp [hj]
    · rw [fU,gi,hb];have hjs:j<cells.size:=by
       rw [Array.getElem?_eq_some_iff] at hcj;exact hcj.1
      have:=hfr j hjs;obtain ⟨lo,hi⟩:=fr;simp only at this ⊢;simp;omega
   refine callsIn_wide.2 ((Tryz.slices_Sort_int117 b 0 c zs w hH hlt hsz).mono ?_);rintro e w' ⟨rfl,n,os,rfl⟩;refine ⟨_,rfl,⟨rfl,?_⟩,⟨rfl,rfl,rfl⟩⟩;have hD:(zs.mergeSort fun x y=>decide (x≤y))=gD zs:=rfl;rw [hD];have hDl:(gD zs).length=zs.length:=(xB zs).length_eq;have hup:aD (pt b (.cells (putCells (Value.int .i64) 0 (gD zs).toArray cells) 2 fr)::F) (grow (putRow (Value.int .i64) (Sort.ahead w n) b 0 (gD zs).toArray) os).heap:=by
    refine H2.upd _ ?_ ?_
    · show ((w.heap.modify b (onCells (putCells (Value.int .i64) 0 (gD zs).toArray)))++os)[b]? = _;rw [Array.getElem?_append_left (by simpa using hlt),Array.getElem?_modify];simp [hb,onCells]
    · intro k hk hks;show ((w.heap.modify b (onCells (putCells (Value.int .i64) 0 (gD zs).toArray)))++os)[k]? = _;rw [Array.getElem?_append_left (by simpa using hks),Array.getElem?_modify];simp [Ne.symm hk]
   have hcsz:(putCells (Value.int .i64) 0 (gD zs).toArray cells).size=cells.size:=by simp [putCells]
   refine eW hup (by rw [hcsz]; exact hfr) hlc hcm (by rw [hcsz]; exact hcs) ?_;apply List.ext_getElem?;intro j;rw [getElem?_take,getElem?_map];by_cases hj:j<zs.length
   · rw [al (by omega),ah (by omega:j<(gD zs).length)];have hjc:j<cells.size:=by omega
     simp [putCells,hjc,hDl,hj,iv]
   · rw [ak (by omega),getElem?_eq_none (by omega:(gD zs).length≤j)]
     rfl
theorem xA {a b:List Int} (h:a.Perm b):gD a=gD b:=by
 have tr:∀ x y z:Int,decide (x≤y)=true→decide (y≤z)=true→decide (x≤z)=true:=fun x y z h1 h2=>by
  simp only [decide_eq_true_eq] at h1 h2 ⊢;omega
 have to:∀ x y:Int,(decide (x≤y)||decide (y≤x))=true:=fun x y=>by
  simp only [Bool.or_eq_true,decide_eq_true_eq];omega
 refine List.Perm.eq_of_pairwise (le:=fun x y=>decide (x≤y)=true) ?_ (pairwise_mergeSort tr to _) (pairwise_mergeSort tr to _) (((mergeSort_perm _ _).trans h).trans (mergeSort_perm _ _).symm)
 intro x y _ _ h1 h2
 simp only [decide_eq_true_eq] at h1 h2
 omega
theorem Bw {yv:Value} {cb mb:Nat} {m:List (Int×Value)} {es:Array MapEntry} {clock:Nat} {h:Heap} (hm:dZ (ey .i64) es clock m) (G:List Int→List aG) (Out:Heap→Prop)
  (start:aD (pt cb (.cells #[.map (some mb)] 84 (0,0))::pt mb (.map es clock)::G []) h)
  (round:∀ (r:Nat) (o:Obj) done k h2,done.length<m.length→aD (pt cb (.cells #[.map (some mb)] 84 (0,0))::pt mb (.map es clock)::pt r o::G done) h2→
   cK prog yv [.int .i64 k] h2 fun r' h3=>∃ go,r'=.bool go∧(go=true→aD (pt cb (.cells #[.map (some mb)] 84 (0,0))::pt mb (.map es clock)::pt r o::G (done++[k])) h3)∧(go=false→Out h3))
  (fin:∀ ks h2,ks.Perm (m.map (·.1))→aD (pt cb (.cells #[.map (some mb)] 84 (0,0))::pt mb (.map es clock)::G ks) h2→Out h2) :
  aC prog 118 [yv,.pointer (some ⟨cb,0,none⟩)] h fun v h'=>v=.tuple #[]∧Out h':=by
 apply Ha.ap
 unfold My
 refine ⟨.map (some mb),by rw [bD start.get]; rfl,?_⟩
 show DM (.map (some mb)) _
 rw [bS]
 have hn:=hm.1.2.1
 refine g7 (k:=2) (e:=81) (by kernel_rfl) start (start.mv 1).get fun r h1 H1=>?_
 rw [bC]
 refine ⟨fun _ h2=>∃ seen done c0,aD (pt r (.mapIter (some mb) clock seen c0)::pt cb (.cells #[.map (some mb)] 84 (0,0))::pt mb (.map es clock)::G (done.map fun e:MapEntry=>kI e.key)) h2∧cA es seen done∧clock≤c0,
  fun _ h2=>bU ⟨r,0,none⟩ h2,⟨#[],[],clock,H1,cA.start es,av _⟩,?_⟩
 rintro _ h2 ⟨seen,done,c0,H2,hw,hc⟩
 have hmb:=(H2.mv 2).get
 refine kb H2 hmb hm.1.1 hc ?_ ?_
 · intro h0;refine .inl ⟨rfl,rfl,fin (done.map fun e:MapEntry=>kI e.key) h2 ?_ H2.drop⟩;rw [← hm.keysI];exact (hw.fin h0).map _
 · intro e he h3 H3;have hmb3:=(H3.mv 2).get;have hee:=cA.mem he;refine .inr ⟨_,_,rfl,?_⟩;refine i4 H3 hmb3 hee hn ?_;refine ⟨kI e.key,e.val,by rw [← hm.intKey hee],?_⟩;have hdl:(done.map fun e:MapEntry=>kI e.key).length<m.length:=by
    have h1:=hw.perm.length_eq;have h2:0<(leftOf es seen).toList.length:=length_pos_of_mem he;rw [am] at h1;rw [an,← hm.size];simp only [Array.length_toList] at h1 h2;omega
   refine (round r (.mapIter (some mb) clock (seen.push e.born) clock) (done.map fun e:MapEntry=>kI e.key) (kI e.key) h3 hdl ((H3.mv 2).mv 2)).mono ?_;rintro r' h4 ⟨go,rfl,hgo,hstop⟩;rw [bE]
   cases go with
   | false=>exact ⟨rfl,hstop rfl⟩
   | true=>
     rw [az,aa];have H4:=(hgo rfl).mv 2;refine ⟨⟨seen.push e.born,done++[e],clock,?_,hw.step hn he,av _⟩,?_⟩
     · rw [map_append];exact H4
     · have a1:bU ⟨r,0,none⟩ h4=(leftOf es (seen.push e.born)).size:=by
        unfold bU;simp only [H4.get,(H4.mv 2).get]
       have a2:bU ⟨r,0,none⟩ h2=(leftOf es seen).size:=by
        unfold bU;simp only [H2.get,hmb]
       show bU ⟨r,0,none⟩ h4<bU ⟨r,0,none⟩ h2;rw [a1,a2];exact cA.less hn he
theorem Dr {m0:Option Nat} {h:Heap} {F:List aG} (H:aD F h):aC prog 49 [.map m0] h fun v h'=>∃ b,v=.func (.func 118) #[] #[.pointer (some ⟨b,0,none⟩)]∧aD (pt b (.cells #[.map m0] 84 (0,0))::F) h':=by
 apply Jq.ap
 unfold Oc
 exact aQ H fun b h1 H1=>⟨b,rfl,H1⟩
def vX (b:Nat) (done:List Int):aG:=pS fun q:Option Addr×Nat×Nat=>dh [pt b (.cells #[.slice q.1 q.2.1 q.2.2] 76 (0,0)),aL 2 1 q.1 q.2.1 q.2.2 (done.map iv)]
theorem yx {cb mb:Nat} {m:List (Int×Value)} {h:Heap} {F:List aG} (H:aD (pt cb (.cells #[.map (some mb)] 84 (0,0))::bF (ey .i64) mb m::F) h) (hmax:m.length<1099511627776) :
  aC prog 170 [.slice none 0 0,.func (.func 118) #[] #[.pointer (some ⟨cb,0,none⟩)]] h fun v h'=>∃ (a:Option Addr) (c:Nat) (ks:List Int),ks.Perm (m.map (·.1))∧v=.slice a ks.length c∧aD (aL 2 1 a ks.length c (ks.map iv)::bF (ey .i64) mb m::F) h':=by
 apply Gz.ap
 unfold Mc
 refine aQ H fun b0 h1 H1=>?_
 obtain ⟨es,clock,hm,H2⟩:=ee (H1.mv 2)
 intro rec hrec hy
 refine kr ?_
 have H3:=(H2.push (.deferred (some []))).push (rec .ready none)
 rw [Array.size_push] at H3
 have Hs:aD (pt cb (.cells #[.map (some mb)] 84 (0,0))::pt mb (.map es clock)::pt (h1.size+1) (rec .ready none)::pt h1.size (.deferred (some []))::vX b0 []::F) ((h1.push (.deferred (some []))).push (rec .ready none)):=by
  have K:=bG 2 1 (H3.mv 3);have K2:=K.mv 1;have K3:aD ([pt b0 (.cells #[.slice none 0 0] 76 (0,0)),aL 2 1 none 0 0 []]++(pt (h1.size+1) (rec .ready none)::pt h1.size (.deferred (some []))::pt mb (.map es clock)::pt cb (.cells #[.map (some mb)] 84 (0,0))::F)) ((h1.push (.deferred (some []))).push (rec .ready none)):=K2;have K4:aD (vX b0 []::(pt (h1.size+1) (rec .ready none)::pt h1.size (.deferred (some []))::pt mb (.map es clock)::pt cb (.cells #[.map (some mb)] 84 (0,0))::F)) ((h1.push (.deferred (some []))).push (rec .ready none)):=bw.2 ⟨(none,0,0),K3.shut⟩;exact (((K4.mv 2).mv 2).mv 3).mv 4
 refine (Bw hm (fun done=>pt (h1.size+1) (rec .ready none)::pt h1.size (.deferred (some []))::vX b0 done::F)
  (fun h2=>∃ ks:List Int,ks.Perm (m.map (·.1))∧aD (pt (h1.size+1) (rec .ready none)::pt h1.size (.deferred (some []))::vX b0 ks::pt mb (.map es clock)::F) h2) Hs ?_ ?_).mono ?_
 · intro r o done k h4 hdl H4;refine gI ?_;have hL:=(H4.mv 3).get;refine hy _ _ _ rfl hL ⟨k,rfl,hL,?_⟩;have H5:=((H4.mv 3).set (rec .busy none)).mv 5;obtain ⟨⟨la,ll,lc⟩,H6⟩:=bw.1 H5;have H7:=H6.open;obtain ⟨hll,hllc,hlcm⟩:=eZ H7.drop;simp only [an,Nat.mul_one] at hll hllc hlcm;refine ⟨.slice la ll lc,by rw [bD H7.get]; rfl,?_⟩;show aX (.slice la ll lc) _;rw [aF];refine aQ H7 fun b1 h8 H8=>?_;have hr:dw h8 (some ⟨b1,0,none⟩) [.int .i64 k]:=by
    intro j v hv;rw [dR H8.get];simpa using hv
   refine jH MV In KZ (H8.mv 2) (bV hr rfl) (by intro u hu; simp at hu; subst hu; rfl) (by omega) fun a' c' h9 _ H9=>?_;rw [aF];simp only [aS];refine dO (H9.mv 2) Nat.zero_lt_one (bP 1 0 (by decide)) fun h10 H10=>?_;have H11:=H10.mv 3;refine ⟨H11.get,true,rfl,fun _=>?_,fun e=>by cases e⟩;have H12:=((((H11.set (rec .ready none)).mv 3).drop).mv 2).mv 2;have H13:aD ([pt b0 (.cells #[.slice a' (ll+1) c'] 76 (0,0)),aL 2 1 a' (ll+1) c' ((done++[k]).map iv)]++(pt (h1.size+1) (rec .ready none)::pt cb (.cells #[.map (some mb)] 84 (0,0))::pt mb (.map es clock)::pt r o::pt h1.size (.deferred (some []))::F)) (h10.setIfInBounds (h1.size+1) (rec .ready none)):=by
    rw [map_append];exact H12
   have H14:aD (vX b0 (done++[k])::(pt (h1.size+1) (rec .ready none)::pt cb (.cells #[.map (some mb)] 84 (0,0))::pt mb (.map es clock)::pt r o::pt h1.size (.deferred (some []))::F)) (h10.setIfInBounds (h1.size+1) (rec .ready none)):=bw.2 ⟨(a',ll+1,c'),H13.shut⟩;exact ((((H14.mv 5).mv 2).mv 5).mv 5).mv 5
 · intro ks h4 hp H4;exact ⟨ks,hp,(((H4.mv 1).mv 4).mv 4).mv 4 |> fun hh=>(((H4.drop.mv 3).mv 3).mv 3)⟩
 · rintro v h4 ⟨_,ks,hp,H4⟩;refine ⟨.ready,none,H4.get,by decide,rfl,?_⟩;have H5:=(H4.set (rec .exhausted none)).mv 2;obtain ⟨⟨la,ll,lc⟩,H6⟩:=bw.1 H5;have H7:=H6.open;obtain ⟨hll,hllc,hlcm⟩:=eZ H7.drop;simp only [an,Nat.mul_one] at hll hllc hlcm;refine ⟨.slice la ll lc,by rw [bD H7.get]; rfl,?_⟩;show aX (.slice la ll lc) _;rw [aF];have H8:=H7.mv 3;subst hll;refine ⟨H8.get,la,lc,ks,hp,rfl,?_⟩;have H9:=(H8.set (.deferred none)).drop.drop;exact (df hm (((H9.mv 1).drop).mv 1)).mv 1
theorem Ds {cb mb:Nat} {m:List (Int×Value)} {h:Heap} {F:List aG} (H:aD (pt cb (.cells #[.map (some mb)] 84 (0,0))::bF (ey .i64) mb m::F) h) (hmax:m.length<1099511627776) :
  aC prog 48 [.func (.func 118) #[] #[.pointer (some ⟨cb,0,none⟩)]] h fun v h'=>∃ (a:Option Addr) (c:Nat),v=.slice a m.length c∧aD (aL 2 1 a m.length c ((gD (m.map (·.1))).map iv)::bF (ey .i64) mb m::F) h':=by
 apply Jr.ap
 unfold Od
 have step:aC prog 116 [.func (.func 118) #[] #[.pointer (some ⟨cb,0,none⟩)]] h fun v h'=>∃ (a:Option Addr) (c:Nat) (ks:List Int),ks.Perm (m.map (·.1))∧v=.slice a ks.length c∧aD (aL 2 1 a ks.length c (ks.map iv)::bF (ey .i64) mb m::F) h':=by
  apply Hc.ap;unfold Mz;refine (yx H hmax).mono ?_;rintro v h1 ⟨a,c,ks,hp,rfl,H1⟩;rw [aF];exact ⟨a,c,ks,hp,rfl,H1⟩
 refine step.mono ?_
 rintro v h1 ⟨a,c,ks,hp,rfl,H1⟩
 rw [aF]
 have hkl:ks.length=m.length:=by rw [hp.length_eq,an]
 refine (Bx H1 (by omega)).mono ?_
 rintro v h2 ⟨rfl,H2⟩
 refine ⟨rfl,a,c,by rw [hkl],?_⟩
 rw [hkl] at H2
 have e:gD ks=gD (m.map (·.1)):=xA hp
 rw [← e]
 exact H2
open AF (cI kZ ln)
open Hex (cE)
def Bu (_:Unit) (v:Value) (_:Heap):Prop:=v=.agg #[]
structure eT where
 dir:ByteArray
 D:List (Int×Unit)
 N:List (Int×Unit)
abbrev nw (fb:Nat) (d:ByteArray) (dm nm:Nat):Array Value:=#[aJ fb,.string d,.map (some dm),.map (some nm)]
def dg (b fsb:Nat) (S:eT):aG:=pS fun q:Nat×Nat=>dh [pt b (.cells (nw fsb S.dir q.1 q.2) 86 (0,0)),gu Bu q.1 S.D,gu Bu q.2 S.N]
section
variable {F:List aG} {h:Heap} {b fsb:Nat} {S:eT} {A:AF.FS}
theorem gC (H:aD (dg b fsb S::F) h):∃ d n,aD (pt b (.cells (nw fsb S.dir d n) 86 (0,0))::gu Bu d S.D::gu Bu n S.N::F) h:=by
 obtain ⟨⟨d,n⟩,H2⟩:=bw.1 H
 exact ⟨d,n,H2.open⟩
theorem db {d n:Nat} (H:aD (pt b (.cells (nw fsb S.dir d n) 86 (0,0))::gu Bu d S.D::gu Bu n S.N::F) h):aD (dg b fsb S::F) h:=
 bw.2 ⟨(d,n),aD.shut (m:=[_,_,_]) H⟩
theorem fL (c:Nat) (n:Int):(cI c n).size=18:=AF.Fnm.E4 _ _
theorem lV {c:Nat} {sg:ByteArray} {n:Int} (hs:sg++⟨#[46]⟩=cn [c,46]) (hz:sg.size=1) (H:aD F h):aC prog 36 [.string sg,.int .i64 n] h fun v h'=>v=.string (cI c n)∧aD F h':=by
 apply JB.ap
 unfold Oo
 refine ⟨by rw [hz]; decide,?_⟩
 refine (BD (n:=n) H).mono ?_
 rintro v h1 ⟨rfl,H1⟩
 rw [aR]
 refine ⟨?_,?_,H1⟩
 · have:=fL c n;rw [hs,show (cI c n).size=(cn [c,46]++cn (cE 16 (ff n))).size from rfl,ByteArray.size_append] at *;omega
 · rw [hs]
   rfl
theorem M6:(⟨#[100]⟩:ByteArray)++⟨#[46]⟩=cn [100,46]:=by decide
theorem M5:(⟨#[110]⟩:ByteArray)++⟨#[46]⟩=cn [110,46]:=by decide
theorem xn (H:aD (dg b fsb S::F) h) (hD:S.D.length+S.N.length<1099511627776):aC prog 13 [aJ b] h fun v h'=>v=.int .i64 ((S.D.length+S.N.length:Nat):Int)∧aD (dg b fsb S::F) h':=by
 apply Kc.ap
 unfold OK
 rw [show (some (⟨b,0,none⟩:Addr)).isNone=false from rfl,aa]
 obtain ⟨d,n,H2⟩:=gC H
 rw [aY]
 refine rh (x:=d) H2 rfl ?_
 obtain ⟨es,f,h1,h2,_⟩:=nt (H2.mv 1) 0
 refine ⟨es,h1,?_⟩
 rw [aY]
 refine rh (x:=n) H2 rfl ?_
 obtain ⟨es2,f2,h3,h4,_⟩:=nt (H2.mv 2) 0
 refine ⟨es2,h3,?_,H⟩
 rw [h2,h4,← Int.natCast_add,cv (by omega)]
theorem rm {v:Int}:aC prog 44 [aJ b,.int .i64 v] h fun r h'=>h'=h∧r=.int .i64 (if v<1∨1099511627776<v then 2 else 0):=by
 apply Jt.ap
 unfold Of
 rw [show (some (⟨b,0,none⟩:Addr)).isNone=false from rfl,aa]
 by_cases h1:v<1
 · rw [af h1,ab,al (.inl h1)];exact ⟨by trivial,by trivial⟩
 · rw [ae h1,aa];by_cases h2:1099511627776<v
   · rw [af (show v>1099511627776 from h2),ab,al (.inr h2)];exact ⟨by trivial,by trivial⟩
   · rw [ae (show ¬ v>1099511627776 from h2),aa,ak (by omega)];exact ⟨by trivial,by trivial⟩
def dI (l:List Int) (v:Int):Int:=(l.filter fun n=>decide (n≤v)).foldl max 0
theorem gS:∀ (l:List Int) (a:Int),l.foldl max a=max a (l.foldl max a)∧(∀ x∈l,x≤l.foldl max a)∧(l.foldl max a=a∨l.foldl max a∈l)
 | [],a=>⟨by simp,by simp,.inl rfl⟩
 | y::l,a=>by
   obtain ⟨h1,h2,h3⟩:=gS l (max a y);rw [foldl_cons];refine ⟨by omega,fun x hx=>?_,?_⟩
   · rcases ay.1 hx with rfl | hx
     · omega
     · exact h2 x hx
   · rcases h3 with h3 | h3
     · rw [h3];by_cases hay:a≤y
       · exact .inr (by rw [Int.max_eq_right hay]; exact mem_cons_self ..)
       · exact .inl (by omega)
     · exact .inr (aB _ h3)
theorem xS {l m:List Int} (h:l.Perm m) (v:Int):dI l v=dI m v:=by
 unfold dI
 have hp:=h.filter (fun n=>decide (n≤v))
 obtain ⟨a1,a2,a3⟩:=gS (l.filter fun n=>decide (n≤v)) 0
 obtain ⟨b1,b2,b3⟩:=gS (m.filter fun n=>decide (n≤v)) 0
 have x1:(l.filter fun n=>decide (n≤v)).foldl max 0≤(m.filter fun n=>decide (n≤v)).foldl max 0:=by
  rcases a3 with h | h
  · omega
  · exact b2 _ (hp.mem_iff.1 h)
 have x2:(m.filter fun n=>decide (n≤v)).foldl max 0≤(l.filter fun n=>decide (n≤v)).foldl max 0:=by
  rcases b3 with h | h
  · omega
  · exact a2 _ (hp.mem_iff.2 h)
 omega
theorem xe {v:Int} (H:aD (dg b fsb S::F) h):aC prog 33 [aJ b,.int .i64 v] h fun r h'=>r=.int .i64 (dI (S.N.map (·.1)) v)∧aD (dg b fsb S::F) h':=by
 obtain ⟨d,n,H2⟩:=gC H
 apply JE.ap
 unfold Ou
 rw [aY]
 refine rh (x:=n) H2 rfl ?_
 obtain ⟨ms,H3⟩:=jW (H2.mv 2)
 obtain ⟨es,clock,hm,H4⟩:=ee H3
 have I:=nB (H4.mv 1)
 refine g7 (k:=2) (e:=81) (by kernel_rfl) H4 H4.get fun r h1 H5=>?_
 rw [bC]
 refine Cw hm (fun done=>dI (done.map (·.1)) v) (G:=fun _=>qr (gV Bu ms S.N)::pt b (.cells (nw fsb S.dir d n) 86 (0,0))::gu Bu d S.D::F) H5 ?_ ?_
 · intro done h2 hp H6;refine ⟨?_,?_⟩
   · rw [xS ((hp.map (·.1)).trans (I.perm hm.nodup))]
   · have H7:=jV (df hm H6);exact db (H7.ordT 3 [1,2,0])
 · rintro o done k x h2 again ⟨rest,hp⟩ H6 hag;refine ⟨k,x,rfl,?_⟩;have:=hag h2 H6;have e:dI ((done++[(k,x)]).map (·.1)) v=if k≤v then (if k>dI (done.map (·.1)) v then k else dI (done.map (·.1)) v) else dI (done.map (·.1)) v:=by
    unfold dI;rw [map_append,filter_append,foldl_append];by_cases hk:k≤v
    · rw [al hk];simp only [map_cons,map_nil,filter_cons,hk,decide_true,if_true,List.filter_nil,foldl_cons,List.foldl_nil];split <;> omega
    · rw [ak hk];simp only [map_cons,map_nil,filter_cons,hk,decide_false,Bool.false_eq_true,if_false,List.filter_nil,List.foldl_nil]
   rw [e] at this;by_cases hk:k≤v
   · rw [af hk,ab];rw [al hk] at this;exact this
   · rw [ae hk,aa];rw [ak hk] at this;exact this
end
open Frame (cH)
abbrev gX:=List (ByteArray×ByteArray)
def nh (n:Int):Prop:=1≤n∧n≤1099511627776
theorem nh.id {n:Int} (h:nh n):kZ n:=⟨by have:=h.1; omega,h.2⟩
def BF (ps:gX):Prop:=(bj ps).length≤1000000∧ps.length≤1000000∧∀ p∈ps,p.1.size≤1000000∧p.2.size≤1000000
def gP (S:eT) (c:Nat) (v:Int):eT:=if c=100 then { S with D:=eI v () S.D } else { S with N:=eI v () S.N }
def eT.lay (S:eT) (A:AF.FS) (c:Nat) (v:Int) (ps:gX):AF.FS×eT×Nat:=
 ((A.put S.dir (cI c v) (bj ps)).1,if (A.put S.dir (cI c v) (bj ps)).2=0 then gP S c v else S,(A.put S.dir (cI c v) (bj ps)).2)
section
variable {F:List aG} {h:Heap} {b fsb:Nat} {S:eT} {A:AF.FS}
theorem l7 (ps:gX):B8 (bj ps):=zW fun p hp=>by
 obtain ⟨q,hq,rfl⟩:=List.mem_map.1 hp
 exact ⟨fx _,fx _⟩
theorem Ad (S:eT) (c:Nat) (v:Int):(gP S c v).dir=S.dir:=by unfold gP; split <;> rfl
theorem Du {c q dm nm:Nat} {sg:ByteArray} {v:Int} {la:Option Addr} {ll lc:Nat} {ps:gX} (hc:(c=100∧q=dm)∨(c=110∧q=nm)) (hs:sg++⟨#[46]⟩=cn [c,46]) (hz:sg.size=1)
  (W:A.WF) (hst:A.steps+10<1099511627776) (hd:S.dir.size<4611686018427387904) (hf:BF ps) (hr:∀ h',aD F h'→dw h' la (ps.flatMap pairC)) (hl:ps.length=ll)
  (H:aD (pt b (.cells (nw fsb S.dir dm nm) 86 (0,0))::gu Bu dm S.D::gu Bu nm S.N::cg fsb A::F) h) :
  aC prog 45 [aJ b,.map (some q),.string sg,.int .i64 v,.slice la ll lc] h fun r h'=>r=.int .i64 (((S.lay A c v ps).2.2:Nat):Int)∧(S.lay A c v ps).1.WF∧(S.lay A c v ps).1.steps≤A.steps+6∧
   aD (dg b fsb (S.lay A c v ps).2.1::cg fsb (S.lay A c v ps).1::F) h':=by
 apply Dv.ap
 unfold NA
 obtain ⟨f1,f2,f3⟩:=hf
 have hr':∀ h',aD (pt b (.cells (nw fsb S.dir dm nm) 86 (0,0))::gu Bu dm S.D::gu Bu nm S.N::cg fsb A::F) h'→dw h' la (ps.flatMap pairC):=fun h' hh=>hr h' (hh.rest 4)
 refine (Bz (ps:=ps) hr' hl (by omega) (fun p hp=>by have:=f3 p hp; omega) (by omega) H).mono ?_
 rintro r h1 (⟨hbig,_⟩ | ⟨_,a,cc,rfl,H1⟩)
 · omega
 refine ⟨a,(bj ps).length,cc,0,rfl,?_⟩
 rw [show ((0:Int)!=0)=false from rfl,aa,aY]
 refine mu (x:=fsb) (H1.mv 1) rfl ?_
 rw [aY]
 refine bu (x:=S.dir) (H1.mv 1) rfl ?_
 refine (lV (n:=v) hs hz H1).mono ?_
 rintro r h2 ⟨rfl,H2⟩
 rw [aR]
 refine ⟨rfl,rfl,rfl,mu (x:=fsb) (H2.mv 1) rfl rfl,rfl,rfl,rfl,bu (x:=S.dir) (H2.mv 1) rfl rfl,rfl,?_⟩
 refine (tK (bs:=bj ps) (name:=cI c v) W hst hd (by rw [fL]; decide) (fun h' hh=>aI hh) (l7 ps) rfl (by omega) (H2.ordT 5 [4,0,1,2,3])).mono ?_
 rintro r h3 ⟨rfl,W3,hs3,H3⟩
 rw [aK]
 by_cases he:(A.put S.dir (cI c v) (bj ps)).2=0
 · have e2:S.lay A c v ps=((A.put S.dir (cI c v) (bj ps)).1,gP S c v,0):=by unfold eT.lay; rw [he,al rfl]
   rw [he,e2,show (((0:Nat):Int)!=0)=false from rfl,aa]
   rcases hc with ⟨rfl,rfl⟩ | ⟨rfl,rfl⟩
   · have H4:=fM (S:=Bu () (.agg #[])) (fun h _=>rfl) (j4 H3);refine lZ (kt:=2) (et:=81) (x:=()) (by kernel_rfl) (by kernel_rfl) (H4.ordT 6 [4,0,1,2,3,5]) fun h4 H5=>?_;refine ⟨rfl,W3,hs3,?_⟩;exact db (S:=gP S 100 v) (H5.ordT 5 [3,0,4,1])
   · have H4:=fM (S:=Bu () (.agg #[])) (fun h _=>rfl) (j4 H3);refine lZ (kt:=2) (et:=81) (x:=()) (by kernel_rfl) (by kernel_rfl) (H4.ordT 6 [5,0,1,2,3,4]) fun h4 H5=>?_;refine ⟨rfl,W3,hs3,?_⟩;exact db (S:=gP S 110 v) (H5.ordT 5 [3,4,0,1])
 · have e2:S.lay A c v ps=((A.put S.dir (cI c v) (bj ps)).1,S,(A.put S.dir (cI c v) (bj ps)).2):=by unfold eT.lay; rw [ak he]
   rw [bm he,ab,e2];exact ⟨rfl,W3,hs3,db (S:=S) (H3.ordT 5 [2,3,4,0])⟩
end
end Go.Proofs.YtibdiikcigokjaaGreat
