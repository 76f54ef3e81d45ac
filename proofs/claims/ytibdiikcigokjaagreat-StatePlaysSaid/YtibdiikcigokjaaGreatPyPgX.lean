/-
 DERIVED: THE SHELF's CONTRACTS AT THIS DUMP,IN PLAIN WORDS (tools/lay-plain.mjs out of 'YtibdiikcigokjaaGreatTrySortS.lean',which tools/lay-shelf.mjs wrote): THE SAME DECLARATIONS UNDER THE SAME NAMES: 'import','namespace','open','def','theorem' AND NOTHING ELSE: no command of the shelf's: FOR A HAND-IN. Each laying: the table of numbers ('.._ren') and one theorem,a field a fact of the dump's own or the kernel's comparison; each contract: ONE APPLICATION.
-/
import Derived.Shelf.SlGeneric
import Derived.Shelf.Small.Strs
import Derived.Shelf.SlSortCmp.WholeK
import Derived.Shelf.SlSortCmp.NoneTotal
import Derived.Ground.SlsfProg
import Derived.Test.YtibdiikcigokjaaGreatProg
import Derived.Test.YtibdiikcigokjaaGreatPyFsA
import Derived.Test.YtibdiikcigokjaaGreatPyPfX
namespace Go.Proofs
open Go.Shelf
def Tryz.lays213_ren:Go.Shelf.Ren:=⟨fun | 213=>126 | 265=>182 | n=>n,fun | 9=>9 | 3=>3 | n=>n,fun | n=>n⟩
theorem Tryz.lays213:Go.Proofs.Lays.n213 prog Tryz.lays213_ren:={
 mixed:=by kernel_rfl
 f213:=Tryz.func126.trans (congrArg some (by kernel_rfl))
 f265:=Tryz.func182.trans (congrArg some (by kernel_rfl))
 t3:=Tryz.underlying3
 a3:=Tryz.isAgg3
 z3:=Tryz.sizeOf3
 v3:=Tryz.zeroValue3
 t9:=Tryz.underlying9
 a9:=Tryz.isAgg9
 z9:=Tryz.sizeOf9
 v9:=Tryz.zeroValue9 }
def Tryz.lays106_ren:Go.Shelf.Ren:=⟨fun | 106=>58 | 213=>126 | 265=>182 | n=>n,fun | 9=>9 | 3=>3 | n=>n,fun | n=>n⟩
theorem Tryz.lays106:Go.Proofs.Lays.n106 prog Tryz.lays106_ren:={
 mixed:=by kernel_rfl
 f106:=Tryz.func58.trans (congrArg some (by kernel_rfl))
 f213:=Tryz.func126.trans (congrArg some (by kernel_rfl))
 f265:=Tryz.func182.trans (congrArg some (by kernel_rfl))
 t3:=Tryz.underlying3
 a3:=Tryz.isAgg3
 z3:=Tryz.sizeOf3
 v3:=Tryz.zeroValue3
 t9:=Tryz.underlying9
 a9:=Tryz.isAgg9
 z9:=Tryz.sizeOf9
 v9:=Tryz.zeroValue9 }
open Go.RowKit in
theorem Tryz.strings_Compare (a b:ByteArray) (w:World) :
 Calls prog 58 #[.string a,.string b] w fun e w'=>e=.returned (.int .i64 (Lib.compareBytes a.data.toList b.data.toList))∧w'=w:=Any.strings_Compare Tryz.lays106 a b w
def Tryz.sortF56_ren:Go.Shelf.Ren:=⟨fun | 6=>56 | 15=>125 | 14=>124 | 28=>180 | 29=>181 | 20=>172 | 21=>173 | 22=>174 | 23=>175 | 24=>176 | 25=>177 | 26=>178 | 27=>179 | 46=>227 | 47=>228 | 48=>229 | 49=>230 | 50=>231 | 57=>250 | n=>n,fun | 22=>43 | 24=>103 | 25=>123 | 3=>3 | 39=>51 | 0=>0 | 53=>254 | 55=>187 | 4=>4 | 46=>248 | 45=>247 | 50=>241 | 5=>5 | 9=>9 | 66=>286 | 70=>289 | 76=>301 | 77=>204 | n=>n,fun | n=>n⟩
theorem Tryz.sortF56:Go.Proofs.SlLaysF0.n6 prog Tryz.sortF56_ren:={
 mixed:=by kernel_rfl
 f6:=⟨Tryz.f56.name,by decide,Tryz.func56.trans (congrArg some (by kernel_rfl))⟩
 f14:=⟨Tryz.f124.name,by decide,Tryz.func124.trans (congrArg some (by kernel_rfl))⟩
 f15:=Tryz.func125.trans (congrArg some (by kernel_rfl))
 f20:=⟨Tryz.f172.name,by decide,Tryz.func172.trans (congrArg some (by kernel_rfl))⟩
 f21:=⟨Tryz.f173.name,by decide,Tryz.func173.trans (congrArg some (by kernel_rfl))⟩
 f22:=⟨Tryz.f174.name,by decide,Tryz.func174.trans (congrArg some (by kernel_rfl))⟩
 f23:=⟨Tryz.f175.name,by decide,Tryz.func175.trans (congrArg some (by kernel_rfl))⟩
 f24:=⟨Tryz.f176.name,by decide,Tryz.func176.trans (congrArg some (by kernel_rfl))⟩
 f25:=⟨Tryz.f177.name,by decide,Tryz.func177.trans (congrArg some (by kernel_rfl))⟩
 f26:=⟨Tryz.f178.name,by decide,Tryz.func178.trans (congrArg some (by kernel_rfl))⟩
 f27:=⟨Tryz.f179.name,by decide,Tryz.func179.trans (congrArg some (by kernel_rfl))⟩
 f28:=Tryz.func180.trans (congrArg some (by kernel_rfl))
 f29:=Tryz.func181.trans (congrArg some (by kernel_rfl))
 f46:=⟨Tryz.f227.name,by decide,Tryz.func227.trans (congrArg some (by kernel_rfl))⟩
 f47:=Tryz.func228.trans (congrArg some (by kernel_rfl))
 f48:=Tryz.func229.trans (congrArg some (by kernel_rfl))
 f49:=⟨Tryz.f230.name,by decide,Tryz.func230.trans (congrArg some (by kernel_rfl))⟩
 f50:=⟨Tryz.f231.name,by decide,Tryz.func231.trans (congrArg some (by kernel_rfl))⟩
 f57:=⟨Tryz.f250.name,by decide,Tryz.func250.trans (congrArg some (by kernel_rfl))⟩
 t0:=Tryz.underlying0
 a0:=Tryz.isAgg0
 z0:=Tryz.sizeOf0
 v0:=Tryz.zeroValue0
 t3:=Tryz.underlying3
 a3:=Tryz.isAgg3
 z3:=Tryz.sizeOf3
 v3:=Tryz.zeroValue3
 t4:=Tryz.underlying4
 a4:=Tryz.isAgg4
 z4:=Tryz.sizeOf4
 v4:=Tryz.zeroValue4
 t5:=Tryz.underlying5
 a5:=Tryz.isAgg5
 z5:=Tryz.sizeOf5
 v5:=Tryz.zeroValue5
 t9:=Tryz.underlying9
 a9:=Tryz.isAgg9
 z9:=Tryz.sizeOf9
 v9:=Tryz.zeroValue9
 t22:=Tryz.underlying43
 a22:=Tryz.isAgg43
 z22:=Tryz.sizeOf43
 v22:=Tryz.zeroValue43
 t25:=Tryz.underlying123
 a25:=Tryz.isAgg123
 z25:=Tryz.sizeOf123
 v25:=Tryz.zeroValue123
 t39:=Tryz.underlying51
 a39:=Tryz.isAgg51
 z39:=Tryz.sizeOf51
 v39:=Tryz.zeroValue51
 t45:=Tryz.underlying247
 a45:=Tryz.isAgg247
 z45:=Tryz.sizeOf247
 v45:=Tryz.zeroValue247
 t46:=Tryz.underlying248
 a46:=Tryz.isAgg248
 z46:=Tryz.sizeOf248
 v46:=Tryz.zeroValue248
 t50:=Tryz.underlying241
 a50:=Tryz.isAgg241
 z50:=Tryz.sizeOf241
 v50:=Tryz.zeroValue241
 t53:=Tryz.underlying254
 a53:=Tryz.isAgg254
 z53:=Tryz.sizeOf254
 v53:=Tryz.zeroValue254
 t55:=Tryz.underlying187
 a55:=Tryz.isAgg187
 z55:=Tryz.sizeOf187
 v55:=Tryz.zeroValue187
 t66:=Tryz.underlying286
 a66:=Tryz.isAgg286
 z66:=Tryz.sizeOf286
 v66:=Tryz.zeroValue286
 t70:=Tryz.underlying289
 a70:=Tryz.isAgg289
 z70:=Tryz.sizeOf289
 v70:=Tryz.zeroValue289
 t76:=Tryz.underlying301
 a76:=Tryz.isAgg301
 z76:=Tryz.sizeOf301
 v76:=Tryz.zeroValue301
 t77:=Tryz.underlying204
 a77:=Tryz.isAgg204
 z77:=Tryz.sizeOf204
 v77:=Tryz.zeroValue204 }
end Go.Proofs
namespace Go.Proofs.YtibdiikcigokjaaGreat
open Go.Builtin (append_)
open Go.IntKind (wrap)
open Go.Proofs.Tryz (prog)
open List (foldl_append length_drop append_assoc map_drop size_toArray getElem?_take getElem?_eq_none length_filter_le flatMap_cons append_nil eq_nil_of_length_eq_zero not_mem_nil pairwise_iff_getElem foldl_cons)
open Go Go.RowKit Go.Sort Go.Shelf
set_option linter.unusedVariables false
set_option linter.unusedSimpArgs false
variable {α:Type} [Inhabited α]
theorem sQ {f:α→List Value} {sz:Nat} (hk:∀ x,(f x).length=sz):∀ (xs:List α) (t:Nat),t<xs.length*sz→(xs.flatMap f)[t]! = (f xs[t / sz]!)[t%sz]!
 | [],t,h=>by simp at h
 | x::xs,t,h=>by
   have h0:0<sz:=by rcases Nat.eq_zero_or_pos sz with h1 | h1; · subst h1; simp at h
                    · exact h1
   rw [flatMap_cons];by_cases hlt:t<sz
   · rw [Nat.div_eq_of_lt hlt,Nat.mod_eq_of_lt hlt];simp [List.getElem?_append_left (show t<(f x).length by rw [hk]; exact hlt)]
   · obtain ⟨u,rfl⟩:∃ u,t=sz+u:=⟨t - sz,by omega⟩
     have ih:=sQ hk xs u (by rw [ao,Nat.add_mul,Nat.one_mul] at h; omega);rw [Nat.add_div_left u h0,Nat.add_mod_left];simp only [List.getElem!_eq_getElem?_getD] at ih ⊢;rw [List.getElem?_append_right (by rw [hk]; omega),hk,Nat.add_sub_cancel_left,ih];simp
theorem qT {f:α→List Value} {sz:Nat} (hk:∀ x,(f x).length=sz) (xs:List α):(flatK f sz xs.toArray).toList=xs.flatMap f:=by
 have hl:(xs.flatMap f).length=xs.length*sz:=by
  induction xs with
  | nil=>simp
  | cons x xs ih=>rw [flatMap_cons,am,hk,ih,ao,Nat.add_mul,Nat.one_mul]; omega
 apply List.ext_getElem
 · rw [Array.length_toList,size_flatK,hl,size_toArray]
 · intro t h1 h2;have h3:t<xs.length*sz:=by rw [← hl]; exact h2
   have e1:=sQ hk xs t h3;have e2:=get_flatK f sz xs.toArray t (by simpa using h3);rw [getElem!_pos (xs.flatMap f) t h2] at e1;rw [getElem!_pos (flatK f sz xs.toArray) t (by rw [size_flatK]; simpa using h3)] at e2;rw [Array.getElem_toList,e2,e1];simp
theorem Ky {ρ:Ren} {e sz g:Nat} (L:SlLaysF0.n6 prog ρ) (aE:∀ w,(isAgg (ρ.t 24)).run prog w=.ok true w) (zE:∀ w,(Go.sizeOf (ρ.t 24)).run prog w=.ok sz w) {enc:α→List Value} (hk:∀ x,(enc x).length=sz) (h1:∀ x,∀ v∈enc x,v.oneCell'=true)
  {cf:α→α→Int} (hO:SWO (ltOf cf)) (eg:∀ args w,(callFunc g args).run prog w=.ok (.enter g args) w) (hcmp:∀ blk off size w,CmpLays prog g #[] enc sz cf blk off size w) (h0:cJ prog (ρ.f 6)=true)
  {h:Heap} {F:List aG} {a:Option Addr} {n c:Nat} {xs:List α} (H:aD (aL e sz a n c (xs.flatMap enc)::F) h) (hn:xs.length=n) (hsz:n<4611686018427387904) :
  aC prog (ρ.f 6) [.slice a n c,.func (.func g) #[] #[]] h fun v h'=>v=.tuple #[]∧∃ ys:List α,ys.Perm xs∧ys.Pairwise (fun x y=>ltOf cf y x=false)∧aD (aL e sz a n c (ys.flatMap enc)::F) h':=by
 refine ⟨h0,fun w hw=>?_⟩
 subst hw
 subst hn
 obtain ⟨hl,⟨rfl,hl0,rfl,hxe,H0⟩ | ⟨b,cells,fr,rfl,hlc,hcm,hcs,hfr,ht,H2⟩⟩:=cV H
 · have hx:xs=[]:=eq_nil_of_length_eq_zero hl0;subst hx;refine callsIn_wide.2 ((AnyF.slices_SortFunc_none L none 0 _ w).mono ?_);rintro e w' ⟨rfl,rfl⟩;exact ⟨_,rfl,⟨rfl,[],.nil,.nil,H⟩,⟨rfl,rfl,rfl⟩⟩
 · have hb:=H2.get;have hlt:=(Array.getElem?_eq_some_iff.1 hb).1;have hfk:=qT hk xs;have hH:HoldsK enc sz w b 0 xs.toArray:=by
    intro j hj;have hj2:j<xs.length*sz:=by simpa using hj
    have hcj:cells[j]? = some (flatK enc sz xs.toArray)[j]! := by
     have h2:(cells.toList.take (xs.length*sz))[j]? = (flatK enc sz xs.toArray).toList[j]? := by rw [ht,hfk]
     rw [getElem?_take,al hj2] at h2;rw [getElem!_pos (flatK enc sz xs.toArray) j hj];simpa [hj2] using h2
    refine ⟨?_,?_⟩
    · rw [cY,bD hb,Nat.zero_add,hcj];simp [hj2]
    · rw [fU,gi,hb];have hjs:j<cells.size:=by
       rw [Array.getElem?_eq_some_iff] at hcj;exact hcj.1
      have:=hfr j hjs;obtain ⟨lo,hi⟩:=fr;simp only at this ⊢;simp;omega
   have this:=AnyQ.slices_SortFunc L sz aE zE enc hk h1 cf hO g #[] b 0 c xs.toArray w eg (hcmp b 0 _ w) hH hlt (by simp; omega);rw [size_toArray] at this;refine callsIn_wide.2 (this.mono ?_);rintro e w' ⟨rfl,d',n,os,hperm,hsort,rfl⟩;obtain ⟨hds,_,hpm⟩:=hperm
   replace hds:d'.size=xs.length:=by simpa using hds
   have hpm2:d'.toList.Perm xs:=by
    have e1:d'.extract 0 xs.length=d':=by rw [← hds]; simp
    have e2:xs.toArray.extract 0 xs.length=xs.toArray:=by simp
    rw [e1,e2] at hpm;simpa using hpm
   have hfd:(flatK enc sz d').toList=d'.toList.flatMap enc:=by
    have:=qT hk d'.toList;simpa using this
   refine ⟨_,rfl,⟨rfl,d'.toList,hpm2,?_,?_⟩,⟨rfl,rfl,rfl⟩⟩
   · rw [pairwise_iff_getElem];intro i j hi hj hij;have:=hsort i j (au _) hij (by simpa [hds] using hj);rw [getElem!_pos d' i (by simpa using hi),getElem!_pos d' j (by simpa using hj)] at this;simpa using this
   · generalize hD:flatK enc sz d'=D;have hDl:D.size=xs.length*sz:=by rw [← hD,size_flatK,hds]
     have hup:aD (pt b (.cells (putCells id 0 D cells) e fr)::F) (sortWorldK enc sz w b 0 n d' os).heap:=by
      refine H2.upd _ ?_ ?_
      · show ((w.heap.modify b (onCells (putCells id 0 (flatK enc sz d'))))++os)[b]? = _;rw [Array.getElem?_append_left (by simpa using hlt),Array.getElem?_modify];simp [hb,onCells,hD]
      · intro k hk hks;show ((w.heap.modify b (onCells (putCells id 0 (flatK enc sz d'))))++os)[k]? = _;rw [Array.getElem?_append_left (by simpa using hks),Array.getElem?_modify];simp [Ne.symm hk]
     have hcsz:(putCells id 0 D cells).size=cells.size:=by simp [putCells]
     refine eW hup (by rw [hcsz]; exact hfr) hlc hcm (by rw [hcsz]; exact hcs) ?_;rw [← hfd,hD];have hle:xs.length*sz≤c*sz:=Nat.mul_le_mul_right _ hlc;apply List.ext_getElem?;intro j;rw [getElem?_take];by_cases hj:j<xs.length*sz
     · rw [al hj];have hjc:j<cells.size:=by omega
       simp [putCells,hjc,hDl,hj]
     · rw [ak hj,getElem?_eq_none (by simp; omega)]
end Go.Proofs.YtibdiikcigokjaaGreat
namespace Go.Proofs.YtibdiikcigokjaaGreat.TS
open Go.Builtin (append_)
open Go.IntKind (wrap)
open Go.Proofs.Tryz (prog)
open List (foldl_append length_drop append_assoc map_drop size_toArray getElem?_take getElem?_eq_none length_filter_le flatMap_cons append_nil eq_nil_of_length_eq_zero not_mem_nil pairwise_iff_getElem foldl_cons)
open Go Go.RowKit Go.Sort Go.Lib
open Tb (T get set del Up nj)
open AF (dF bp bB bZ)
set_option linter.unusedVariables false
set_option linter.unusedSimpArgs false
abbrev MQ (x y:Ch):Int:=Lib.compareBytes x.1.data.toList y.1.data.toList
set_option maxHeartbeats 1000000 in
theorem Ay (x y:Ch) (W:World):Calls prog 57 #[.agg #[.string x.1,ve x.2.1,.bool x.2.2],.agg #[.string y.1,ve y.2.1,.bool y.2.2]] W fun e w'=>e=.returned (.int .i64 (MQ x y))∧∃ q os',w'=grow (W.drewN q) os':=by
 have hcon:=fun W'=>Tryz.strings_Compare x.1 y.1 W'
 show Calls prog 57 #[.agg #[.string x.1,ve x.2.1,.bool x.2.2],.agg #[.string y.1,ve y.2.1,.bool y.2.2]] W fun e w'=>e=.returned (.int .i64 (Lib.compareBytes x.1.data.toList y.1.data.toList))∧∃ q os',w'=grow (W.drewN q) os'
 generalize Lib.compareBytes x.1.data.toList y.1.data.toList=r at hcon ⊢
 go_enter Tryz.func57,Tryz.ntmps57
 go_wp2_with (go_at_call 58; refine (hcon _).mono ?_; rintro e w' ⟨rfl,rfl⟩)
 go_ret
 exact ⟨rfl,0,_,by rw [alloc_eq_grow,alloc_eq_grow,grow_grow]; rfl⟩
theorem Ax (blk off size:Nat) (w:World):CmpLays prog 57 #[] gk 3 MQ blk off size w:=fun _ _ _ _ x y=>Ay x y _
theorem q7:∀ (a b:List UInt8),(Lib.compareBytes a b<0)↔a<b
 | [],[]=>by simp [Lib.compareBytes]
 | [],_::_=>by simp [Lib.compareBytes]
 | _::_,[]=>by simp [Lib.compareBytes]
 | a::s,b::t=>by
   unfold Lib.compareBytes;rw [List.cons_lt_cons_iff];by_cases h1:a<b
   · simp [h1]
   · by_cases h2:b<a
     · have:¬ a=b:=fun e=>by subst e; exact h1 h2
       simp [h1,h2,this]
     · have:a=b:=by
        rw [← UInt8.toNat_inj];rw [UInt8.lt_iff_toNat_lt] at h1 h2;omega
       simp [this,q7 s t]
theorem zi (x y:Ch):ltOf MQ x y=dF x.1 y.1:=by
 unfold ltOf dF
 exact decide_eq_decide.2 (q7 _ _)
theorem M0:SWO (ltOf MQ) where
 irrefl x:=by
  rw [zi]
  cases h:dF x.1 x.1 with
  | false=>rfl
  | true=>exact (bp _ h).elim
 trans x y z h1 h2:=by
  rw [zi] at *;exact bB h1 h2
 ntrans x y z h1 h2:=by
  rw [zi] at *
  cases h:dF x.1 z.1 with
  | false=>rfl
  | true=>
    exfalso;by_cases e:x.1=y.1
    · rw [e,h2] at h; cases h
    · have h3:=bZ e (by rw [h1]; simp);rw [bB h3 h] at h2;cases h2
theorem Dn {h:Heap} {F:List aG} {a:Option Addr} {n c:Nat} {xs:List Ch} (H:aD (aL 103 3 a n c (xs.flatMap gk)::F) h) (hn:xs.length=n) (hsz:n<4611686018427387904) :
  aC prog 56 [.slice a n c,.func (.func 57) #[] #[]] h fun v h'=>v=.tuple #[]∧∃ ys:List Ch,ys.Perm xs∧(ys.Pairwise fun x y=>dF y.1 x.1=false)∧aD (aL 103 3 a n c (ys.flatMap gk)::F) h':=by
 have eg:∀ args w,(callFunc 57 args).run prog w=.ok (.enter 57 args) w:=enters_of Tryz.func57 (by kernel_rfl) rfl
 refine aC.mono (Ky (g:=57) Tryz.sortF56 (fun w=>by kernel_rfl) (fun w=>by kernel_rfl) (enc:=gk) (fun _=>rfl) (fun x v hv=>?_) M0 eg (fun _ _ _ _=>Ax _ _ _ _) (by kernel_rfl) H hn hsz) ?_
 · simp only [ay,not_mem_nil,or_false] at hv
   rcases hv with rfl | rfl | rfl <;> rfl
 · rintro v h' ⟨rfl,ys,hp,hs,H2⟩;refine ⟨rfl,ys,hp,hs.imp fun {x y} h=>?_,H2⟩
   rwa [zi] at h
end Go.Proofs.YtibdiikcigokjaaGreat.TS
namespace Go.Proofs.YtibdiikcigokjaaGreat.TS
open Go.Builtin (append_)
open Go.IntKind (wrap)
open Go.Proofs.Tryz (prog)
open List (foldl_append length_drop append_assoc map_drop size_toArray getElem?_take getElem?_eq_none length_filter_le flatMap_cons append_nil eq_nil_of_length_eq_zero not_mem_nil pairwise_iff_getElem foldl_cons)
open Go Go.RowKit
open Tb (T get set del Up nj)
open AF (dF bp bB bZ)
set_option linter.unusedVariables false
set_option linter.unusedSimpArgs false
def cD (p:Option Addr) (l:T VT):aG:=fun r=>(p=none∧l=[]∧Kq r)∨∃ b,p=some ⟨b,0,none⟩∧dG b l r
section
variable {p:Option Addr} {l:T VT} {F:List aG} {h:Heap}
theorem mL (H:aD (cD p l::F) h):(p=none∧l=[]∧aD F h)∨∃ b,p=some ⟨b,0,none⟩∧aD (dG b l::F) h:=by
 obtain ⟨r,⟨r1,r2,hd,rfl,h1,h2⟩,hs⟩:=H
 rcases h1 with ⟨hp,hl,he⟩ | ⟨b,hp,ht⟩
 · exact .inl ⟨hp,hl,r2,h2,fun b x hx=>hs b x (fK hd hx)⟩
 · exact .inr ⟨b,hp,_,⟨r1,r2,hd,rfl,ht,h2⟩,hs⟩
theorem tabZ_some {b:Nat} (H:aD (dG b l::F) h):aD (cD (some ⟨b,0,none⟩) l::F) h:=H.imp fun r hr=>.inr ⟨b,rfl,hr⟩
theorem tabZ_none (H:aD F h):aD (cD none []::F) h:=by
 obtain ⟨r,hr,hs⟩:=H
 obtain ⟨r1,r2,hd,e1,h1,h2⟩:=mh hr
 exact ⟨r,⟨r1,r2,hd,e1,.inl ⟨rfl,rfl,h1⟩,h2⟩,hs⟩
theorem yH (H:aD (cD p l::F) h):Up l:=by
 rcases mL H with ⟨_,rfl,_⟩ | ⟨b,_,H1⟩
 · exact Up.nil
 · obtain ⟨q,hq,_⟩:=im H1;exact hq.has.2
theorem HU {key:ByteArray} (H:aD (cD p l::F) h):aC prog 55 [.pointer p,.string key] h fun v h'=>v=La l key∧h'=h:=by
 rcases mL H with ⟨rfl,rfl,H1⟩ | ⟨b,rfl,H1⟩
 · apply Do.ap;unfold Nw;exact ⟨rfl,by trivial⟩
 · exact w8 H1
theorem F34_none (H:aD F h):aC prog 34 [.slice none 0 0] h fun v h'=>∃ b,v=aJ b∧aD (dG b []::F) h':=
 Dy (es:=[]) (fun _ H'=>ip (iq H')) rfl (by decide) H
theorem Ew (H:aD (cD p l::F) h):aC prog 109 [.pointer p] h fun v h'=>∃ b',v=aJ b'∧aD (dG b' l::cD p l::F) h':=by
 rcases mL H with ⟨rfl,rfl,H1⟩ | ⟨b,rfl,H1⟩
 · apply zC.ap;unfold Kl;rw [show (none:Option Addr).isNone=true from rfl,ab];refine (F34_none H).mono ?_;rintro v h' ⟨b',rfl,H2⟩;show DP (.pointer (some ⟨b',0,none⟩)) _;rw [bC];exact ⟨b',rfl,H2⟩
 · refine (tL H1).mono ?_;rintro v h' ⟨b',rfl,H2⟩;exact ⟨b',rfl,(tabZ_some (H2.mv 1)).mv 1⟩
theorem Kh {key:ByteArray} (hl:l.length<1099511627776) (H:aD (cD p l::F) h):aC prog 115 [.pointer p,.string key] h fun v h'=>∃ q b0 b1,v=rA b0 b1∧aD (jd q b0 b1 (jC l key)::cD p l::F) h':=by
 apply zA.ap
 unfold Ki
 refine (Ew H).mono ?_
 rintro v h1 ⟨b2,rfl,H1⟩
 show DP (.pointer (some ⟨b2,0,none⟩)) _
 rw [bC]
 refine (tC hl H1).mono ?_
 rintro v h2 ⟨a,c,rfl,hlc,H2⟩
 rw [aF]
 obtain ⟨q,hq,H3⟩:=im (H2.mv 1)
 have hrd:=ip (H3.mv 3)
 refine (tB hq.has.2 hrd rfl hl).mono ?_
 rintro v h3 ⟨⟨z,rfl⟩,rfl⟩
 refine ⟨_,_,rfl,?_⟩
 have hle:=yo l key
 refine gn hle hlc (av c) ?_
 refine eU (v:=.map (some q.mb)) H3 rfl ?_
 show DM (.map (some q.mb)) _
 rw [bS]
 have h37:aC prog 169 [.slice (gJ a (jr l key) c 1) (l.length - jr l key) (c - jr l key),.map (some q.mb)] h3 fun v h'=>∃ b0 b1,v=rA b0 b1∧aD (pt b1 (.cells #[.map (some q.mb)] 175 (0,0))::pt b0 (.cells #[.slice (gJ a (jr l key) c 1) (l.length - jr l key) (c - jr l key)] 97 (0,0))::tU b2 q::bF aN q.mb q.m::zK q::iE a ((l.map (·.1)).map Value.string)::cD p l::F) h':=by
  apply zu.ap;unfold J4;exact aQ H3 fun b0 h4 H4=>aQ H4 fun b1 h5 H5=>⟨b0,b1,rfl,H5⟩
 refine h37.mono ?_
 rintro v h4 ⟨b0,b1,rfl,H4⟩
 refine ⟨_,rfl,⟨l,q.m,q.mb,gJ a (jr l key) c 1,l.length - jr l key,c - jr l key⟩,b0,b1,rfl,?_⟩
 have hfl:(jC l key).length=l.length - jr l key:=by rw [← lK,length_drop]
 have H5:=(H4.mv 5).imp (B:=iE (gJ a (jr l key) c 1) (((jC l key).map (·.1)).map Value.string)) fun r hr=>⟨hr.1,fun h hs=>by
  have h1:=(hr.2 h hs).sub (jr l key) (l.length - jr l key) c (fun e=>by omega);rw [← lK];rw [ar (by simp)] at h1
  rwa [map_drop,map_drop]⟩
 refine vA ⟨hq.has,kL l key,hfl.symm,(by show l.length - jr l key<_; omega)⟩ ?_
 exact H5.ordT 7 [2,1,0,4,6]
theorem F46_Z (hl:l.length<1099511627776) (H:aD (cD p l::F) h):aC prog 46 [.pointer p] h fun v h'=>∃ q b0 b1,v=rA b0 b1∧aD (jd q b0 b1 l::cD p l::F) h':=by
 apply Dt.ap
 unfold Nz
 refine (Kh (key:=.empty) hl H).mono ?_
 rintro v h1 ⟨q,b0,b1,rfl,H1⟩
 rw [sP] at H1
 exact ⟨_,rfl,q,b0,b1,rfl,H1⟩
end
def Fq (b:Nat) (xs:List Ch):aG:=pS fun q:Option Addr×Nat×Nat=>dh [mC (xs.length=q.2.1),pt b (.cells #[.slice q.1 q.2.1 q.2.2] 43 (0,0)),aL 103 3 q.1 q.2.1 q.2.2 (xs.flatMap gk)]
section
variable {b:Nat} {xs:List Ch} {F:List aG} {h:Heap}
theorem zh (H:aD (Fq b xs::F) h):∃ a n c,xs.length=n∧aD (pt b (.cells #[.slice a n c] 43 (0,0))::aL 103 3 a n c (xs.flatMap gk)::F) h:=by
 obtain ⟨q,H1⟩:=bw.1 H
 obtain ⟨h1,H2⟩:=cC.1 H1.open
 exact ⟨q.1,q.2.1,q.2.2,h1,H2⟩
theorem zg {a:Option Addr} {n c:Nat} (hn:xs.length=n) (H:aD (pt b (.cells #[.slice a n c] 43 (0,0))::aL 103 3 a n c (xs.flatMap gk)::F) h):aD (Fq b xs::F) h:=
 bw.2 ⟨(a,n,c),aD.shut (m:=[mC (xs.length=n),pt b (.cells #[.slice a n c] 43 (0,0)),aL 103 3 a n c (xs.flatMap gk)]) (cC.2 ⟨hn,H⟩)⟩
theorem uF {x:Ch} {K:Heap→Prop} (hb:xs.length<2199023255552) (H:aD (Fq b xs::F) h) (hK:∀ h',aD (Fq b (xs++[x])::F) h'→K h') :
  Ld h (Addr.mk b 0 none) fun v=>aX v fun a l c=>Al h (.cells #[.string x.1,ve x.2.1,.bool x.2.2] 103) fun b4 h6=>
   bi prog (append_ #[43,43] 43 #[.slice a l c,.slice (some (Addr.mk b4 0 none)) 1 1]) h6 fun r h7=>aX r fun a l c=>bI h7 ((Addr.mk b 0 none).add 0) (.slice a l c) K:=by
 obtain ⟨a,n,c,hn,H1⟩:=zh H
 refine fW (v:=.slice a n c) H1.get rfl ?_
 rw [aF]
 refine gx (f:=gk) (sz:=3) (by_:=NJ) (x:=x) (by kernel_rfl) (by kernel_rfl) (by kernel_rfl) (fun _=>rfl) (fun v hv=>?_) rfl hn (by simp only [NJ]; omega) (H1.mv 1) fun a' c' h' H2=>?_
 · simp only [ay,not_mem_nil,or_false] at hv
   rcases hv with rfl | rfl | rfl <;> rfl
 · refine cd (b:=b) (i:=0) (H2.mv 1) (show (0:Nat)<1 by decide) rfl fun h4 H4=>hK h4 ?_;exact zg (by rw [am,hn]; rfl) H4
end
theorem rZ {a b:T VT} {i:Nat} {p:ByteArray×VT} (hp:b[i]? = some p):jt a (b.take (i+1))=jt a (b.take i)++if get a p.1=some p.2 then [] else [(p.1,p.2,false)]:=by
 unfold jt
 rw [ax,hp]
 by_cases e:get a p.1=some p.2
 · simp [e]
 · simp [e]
theorem rY {a b:T VT} {i:Nat} {p:ByteArray×VT} (hp:a[i]? = some p):lu (a.take (i+1)) b=lu (a.take i) b++if (get b p.1).isNone=true then [(p.1,vz,true)] else []:=by
 unfold lu
 rw [ax,hp]
 cases e:get b p.1 with
 | none=>simp [e]
 | some v=>simp [e]
theorem qv (a b:T VT) (i:Nat):(jt a (b.take i)).length≤b.length:=by
 unfold jt
 rw [an]
 exact Nat.le_trans (length_filter_le _ _) (by rw [aq]; omega)
theorem vH (a b:T VT) (i:Nat):(lu (a.take i) b).length≤a.length:=by
 unfold lu
 rw [an]
 exact Nat.le_trans (length_filter_le _ _) (by rw [aq]; omega)
theorem OQ (x y:VT):(!bL x y) = !decide (x=y):=by rw [bO]
theorem F18_spec {a b:T VT} {pa pb:Option Addr} {F:List aG} {h:Heap} (ha:a.length<1099511627776) (hb:b.length<1099511627776) (H:aD (cD pa a::cD pb b::F) h) :
  aC prog 18 [.pointer pa,.pointer pb] h fun v h'=>∃ sa n c d,v=.slice sa n c∧d.length=n∧Diffs a b d∧aD (aL 103 3 sa n c (d.flatMap gk)::cD pa a::cD pb b::F) h':=by
 have Ua:=yH H
 have Ub:=yH (H.mv 1)
 apply JZ.ap
 unfold OF
 refine aQ H fun b1 h1 H1=>aQ H1 fun b2 h2 H2=>aQ H2 fun b3 h3 H3=>?_
 refine fW (v:=.pointer pb) (H3.mv 1).get rfl ?_
 rw [bC]
 refine (F46_Z hb (H3.mv 4)).mono ?_
 rintro v h4 ⟨q,c0,c1,rfl,H4⟩
 refine ⟨_,rfl,?_⟩
 have H5:aD (Fq b3 (jt a (b.take 0))::jd q c0 c1 b::cD pb b::pt b2 (.cells #[.pointer pb] 24 (0,0))::pt b1 (.cells #[.pointer pa] 24 (0,0))::cD pa a::F) h4:=zg rfl ((bG 103 3 (H4.mv 2)).mv 1)
 refine range_tab (fun i=>Fq b3 (jt a (b.take i))::cD pb b::pt b2 (.cells #[.pointer pb] 24 (0,0))::pt b1 (.cells #[.pointer pa] 24 (0,0))::cD pa a::F) (fun _=>[mC False]) (H5.mv 1) ?_ ?_ (fun j h2 H2=>(cC.1 (H2.mv 1)).1.elim)
 · intro i p L rec h5 Q hp HR go _;refine ⟨p.1,p.2,rfl,HR.get,?_⟩;have HB:=HR.set (rec .busy none);refine fW (v:=.pointer pa) (HB.mv 6).get rfl ?_;rw [bC];refine (HU (key:=p.1) (HB.mv 7)).mono ?_;rintro v h6 ⟨rfl,rfl⟩;refine ⟨_,_,rfl,?_⟩;have hlen:=qv a b i;have push:∀ {h7:Heap},get a p.1≠some p.2→aD (Fq b3 (jt a (b.take i)++[(p.1,p.2,false)])::pt L (rec .busy none)::iL h4.size::jd q c0 c1 b::cD pb b::pt b2 (.cells #[.pointer pb] 24 (0,0))::pt b1 (.cells #[.pointer pa] 24 (0,0))::cD pa a::F) h7→h7[L]? = some (rec .busy none)∧Q (.bool true) (h7.setIfInBounds L (rec .ready none)):=fun {h7} hne H7=>by
    refine go h7 ?_;rw [rZ hp,ak hne];exact H7.ordT 4 [1,2,3,0]
   cases hg:get a p.1 with
   | none=>
     show cond (!(Option.isSome (none:Option VT))) _ _;rw [show (!(Option.isSome (none:Option VT)))=true from rfl,ab];exact uF (x:=(p.1,p.2,false)) (by omega) (HB.mv 3) fun h7 H7=>push (by rw [hg]; simp) H7
   | some y=>
     show cond (!(Option.isSome (some y))) _ _;rw [show (!(Option.isSome (some y)))=false from rfl,aa];rw [Option.getD_some,OQ];by_cases e:y=p.2
     · rw [af e,az,aa];refine go _ ?_;rw [rZ hp,al (by rw [hg,e]),append_nil];exact HB
     · rw [ae e,aA,ab];exact uF (x:=(p.1,p.2,false)) (by omega) (HB.mv 3) fun h7 H7=>push (by rw [hg]; simpa using e) H7
 · intro h5 H6;rw [ar (av _)] at H6;refine ⟨rfl,?_⟩;refine fW (v:=.pointer pa) (H6.mv 5).get rfl ?_;rw [bC];refine (F46_Z ha (H6.mv 6)).mono ?_;rintro v h6 ⟨q2,d0,d1,rfl,H7⟩;refine ⟨_,rfl,?_⟩;have H8:aD (jd q2 d0 d1 a::Fq b3 (jt a b++lu (a.take 0) b)::cD pb b::pt b2 (.cells #[.pointer pb] 24 (0,0))::cD pa a::iL h4.size::F) h6:=by
    rw [show jt a b++lu (a.take 0) b=jt a b from append_nil _];exact H7.ordT 8 [0,4,5,6,1,2]
   refine range_tab (fun i=>Fq b3 (jt a b++lu (a.take i) b)::cD pb b::pt b2 (.cells #[.pointer pb] 24 (0,0))::cD pa a::iL h4.size::F) (fun _=>[mC False]) H8 ?_ ?_ (fun j h2 H2=>(cC.1 (H2.mv 1)).1.elim)
   · intro i p L rec h7 Q hp HR go _;refine ⟨p.1,p.2,rfl,HR.get,?_⟩;have HB:=HR.set (rec .busy none);refine fW (v:=.pointer pb) (HB.mv 5).get rfl ?_;rw [bC];refine (HU (key:=p.1) (HB.mv 4)).mono ?_;rintro v h8 ⟨rfl,rfl⟩;refine ⟨_,_,rfl,?_⟩;have hlen1:(jt a b).length≤b.length:=by have:=qv a b b.length; rwa [ar (av _)] at this
     have hlen2:=vH a b i
     cases hg:get b p.1 with
     | none=>
       show cond (!(Option.isSome (none:Option VT))) _ _;rw [show (!(Option.isSome (none:Option VT)))=true from rfl,ab];refine uF (x:=(p.1,vz,true)) (by rw [am]; omega) (HB.mv 3) fun h7 H7=>go h7 ?_;rw [rY hp,al (by rw [hg]; rfl),← append_assoc];exact H7.ordT 4 [1,2,3,0]
     | some y=>
       show cond (!(Option.isSome (some y))) _ _;rw [show (!(Option.isSome (some y)))=false from rfl,aa];refine go _ ?_;rw [rY hp,ak (by rw [hg]; simp),append_nil];exact HB
   · intro h7 H9;rw [ar (av _)] at H9;refine ⟨rfl,?_⟩;obtain ⟨sa,n,c,hn,H10⟩:=zh (H9.mv 2);refine fW (v:=.slice sa n c) H10.get rfl ?_;rw [aF];have hlen1:=qv a b b.length;have hlen2:=vH a b a.length;rw [ar (av _)] at hlen1 hlen2;rw [am] at hn;refine (Dn (H10.mv 1) (by rw [am]; exact hn) (by omega)).mono ?_;rintro v h8 ⟨rfl,ys,hperm,hs,H11⟩;refine ⟨rfl,?_⟩;refine fW (v:=.slice sa n c) (H11.mv 1).get rfl ?_;rw [aF];have H12:=(H11.mv 2).set (.deferred none);have H13:=(H12.mv 7).set (.deferred none);refine ⟨(H11.mv 2).get,(H12.mv 7).get,sa,n,c,ys,rfl,?_,Diffs.of Ua Ub hperm hs,?_⟩
     · rw [hperm.length_eq,am]; exact hn
     · exact H13.ordT 8 [2,7,5]
end Go.Proofs.YtibdiikcigokjaaGreat.TS
namespace Go.Proofs.YtibdiikcigokjaaGreat.TS
open Go.Builtin (append_)
open Go.IntKind (wrap)
open Go.Proofs.Tryz (prog)
open List (foldl_append length_drop append_assoc map_drop size_toArray getElem?_take getElem?_eq_none length_filter_le flatMap_cons append_nil eq_nil_of_length_eq_zero not_mem_nil pairwise_iff_getElem foldl_cons)
open Go Go.RowKit
open Tb (T get set del Up nj)
open AF (dF bp bB bZ)
set_option linter.unusedVariables false
set_option linter.unusedSimpArgs false
theorem appL_take {l:T VT} {es:List Ch} {i:Nat} {x:Ch} (h:es[i]? = some x):dL l (es.take (i+1))=if x.2.2=true then del (dL l (es.take i)) x.1 else set x.1 x.2.1 (dL l (es.take i)):=by
 unfold dL
 rw [ax,h,foldl_append]
 rfl
theorem appL_len (l:T VT) (es:List Ch):(dL l es).length≤l.length+es.length:=by
 unfold dL
 induction es generalizing l with
 | nil=>exact av _
 | cons x es ih=>
   rw [foldl_cons,ao];refine Nat.le_trans (ih _) ?_;split
   · have:=Tb.yj l x.1;omega
   · have:=Tb.mO x.1 x.2.1 l;omega
section
variable {h:Heap} {F:List aG} {a:Option Addr} {n c:Nat}
theorem F41_spec {p:Option Addr} {l:T VT} {es:List Ch} (hr:∀ h',aD F h'→dw h' a (es.flatMap gk)) (hn:es.length=n) (hm:n<1099511627776) (H:aD (cD p l::F) h) :
  aC prog 41 [.pointer p,.slice a n c] h fun v h'=>∃ b,v=aJ b∧aD (dG b (dL l es)::cD p l::F) h':=by
 apply Jw.ap
 unfold Oi
 refine (Ew H).mono ?_
 rintro v h1 ⟨b,rfl,H1⟩
 show DP (.pointer (some ⟨b,0,none⟩)) _
 rw [bC]
 refine ⟨fun st hh=>∃ i:Nat,st=(i:Int)∧i≤n∧aD (dG b (dL l (es.take i))::cD p l::F) hh,fun st _=>((n:Int) - st).toNat,⟨0,rfl,au _,H1⟩,?_⟩
 rintro st h2 ⟨i,rfl,hi,H2⟩
 by_cases hlt:i<n
 · rw [af (show ((i:Int)<(n:Int)) by omega),ab];obtain ⟨x,hx⟩:∃ x,es[i]? = some x:=⟨_,ah (by omega)⟩
   have wi:wrap .i64 ((i:Int)+1)=((i+1:Nat):Int):=aH (by omega);have hme:((n:Int) - ((i+1:Nat):Int)).toNat<((n:Int) - (i:Int)).toNat:=by omega
   refine ce (f:=gk) (fun _=>rfl) (by decide) (hr h2 H2.drop.drop) hn hx fun _ _ hc=>⟨_,hc 0 _ rfl,_,hc 1 _ rfl,_,hc 2 _ rfl,x.1,x.2.1,x.2.2,rfl,?_⟩
   refine aQ H2 fun b0 h3 H3=>cd H3 (show (0:Nat)<3 by decide) rfl fun h4 H4=>cd H4 (show (1:Nat)<3 by decide) rfl fun h5 H5=>cd H5 (show (2:Nat)<3 by decide) rfl fun h6 H6=>?_;refine eU (v:=.bool x.2.2) H6 rfl ?_;rw [bE];have et:=appL_take (l:=l) hx;have H7:=H6.drop
   cases hg:x.2.2 with
   | true=>
     rw [ab];refine eU (v:=.string x.1) H6 rfl ?_;rw [aR];refine (BC H7).mono ?_;rintro v h7 ⟨rfl,H8⟩;rw [bE,wi];exact ⟨⟨i+1,rfl,by omega,by rw [et,al hg]; exact H8⟩,hme⟩
   | false=>
     rw [aa];refine eU (v:=.string x.1) H6 rfl ?_;rw [aR];refine eU (v:=ve x.2.1) H6 rfl ?_;rw [DV];refine (F39_spec H7).mono ?_;rintro v h7 ⟨rfl,H8⟩;rw [wi];exact ⟨rfl,⟨i+1,rfl,by omega,by rw [et,ak (by rw [hg]; decide)]; exact H8⟩,hme⟩
 · rw [ae (by omega),aa];rw [ar (by omega)] at H2;exact ⟨b,rfl,H2⟩
end
end Go.Proofs.YtibdiikcigokjaaGreat.TS
