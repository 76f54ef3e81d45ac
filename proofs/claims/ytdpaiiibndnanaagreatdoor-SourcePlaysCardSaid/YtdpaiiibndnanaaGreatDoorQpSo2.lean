/- A source: plain. -/
import Derived.Test.YtdpaiiibndnanaaGreatDoorQpSaX
import Derived.Test.YtdpaiiibndnanaaGreatDoorQpDl2
namespace Go.Proofs.YtdpaiiibndnanaaGreatDoor
open List (length_nil zipWith length_set length_singleton)
open Go Go.RowKit
open Dl (LP bC cnt bF j4 Fits)
set_option linter.unusedVariables false
set_option linter.unusedSimpArgs false
namespace AF
def pK (k:Nat):ByteArray:=⟨#[112,UInt8.ofNat (48+k)]⟩
theorem mc (k:Nat):(pK k).size=2:=rfl
def eY (size:Int):Nat→Nat→FS→List aU→FS×Except Nat (List aU)
 | 0,_,A,ls=>(A,.ok ls)
 | m+1,k,A,ls=>match (A.openL (pK k) size).2 with
   | .error e=>((A.openL (pK k) size).1,.error e)
   | .ok L=>eY size m (k+1) (A.openL (pK k) size).1 (ls++[L])
def FS.openSrc (A:FS) (parts size:Int):FS×Except Nat (List aU):=if parts<1∨4<parts then (A,.error 110) else eY size parts.toNat 0 A []
theorem qC (size:Int):∀ (m k:Nat) (A:FS) (ls:List aU),A.WF→(∀ L∈ls,L.Fit 4096)→
  (eY size m k A ls).1.WF∧Gr (9000*m) A (eY size m k A ls).1∧∀ r,(eY size m k A ls).2=.ok r→r.length=ls.length+m∧∀ L∈r,L.Fit 4096
 | 0,k,A,ls,W,hl=>⟨W,Gr.same _ A,fun r h=>by cases h; exact ⟨rfl,hl⟩⟩
 | m+1,k,A,ls,W,hl=>by
   obtain ⟨W1,G1,I1⟩:=oU (size:=size) W (dir:=pK k) (by rw [mc]; decide);unfold eY
   cases ho:(A.openL (pK k) size).2 with
   | error e=>exact ⟨W1,G1.le (by omega),fun r h=>by cases h⟩
   | ok L=>
     dsimp only;obtain ⟨W2,G2,I2⟩:=qC size m (k+1) (A.openL (pK k) size).1 (ls++[L]) W1 (fun x hx=>by
      rcases List.mem_append.1 hx with hx | hx
      · exact hl x hx
      · rw [List.mem_singleton.1 hx]; exact (I1 L ho).1)
     refine ⟨W2,(G1.trans G2).le (by omega),fun r h=>?_⟩;obtain ⟨a,b⟩:=I2 r h;rw [ao,length_singleton] at a;exact ⟨by omega,b⟩
theorem oT {A:FS} (parts size:Int) (W:A.WF):(A.openSrc parts size).1.WF∧Gr 36000 A (A.openSrc parts size).1∧∀ r,(A.openSrc parts size).2=.ok r→(r.length:Int)=parts∧r.length≤4∧1≤r.length∧∀ L∈r,L.Fit 4096:=by
 unfold FS.openSrc
 split
 · exact ⟨W,Gr.same _ A,fun r h=>by cases h⟩
 · rename_i hp;obtain ⟨a,b,c⟩:=qC size parts.toNat 0 A [] W (fun L hL=>by cases hL);refine ⟨a,b.le (by omega),fun r h=>?_⟩;obtain ⟨d,e⟩:=c r h;rw [length_nil] at d;exact ⟨by omega,by omega,by omega,e⟩
def dD (ls:List aU) (part:Int):Option aU:=if part<0 then none else ls[part.toNat]?
def iS (ls:List aU) (A:FS) (part:Int) (b:List Nat):FS×List aU×Except Nat Nat:=match dD ls part with
 | none=>(A,ls,.error 110)
 | some L=>((L.append A b).1,ls.set part.toNat (L.append A b).2.1,(L.append A b).2.2)
def fI (ls:List aU) (A:FS) (part:Int):FS×List aU×Nat:=match dD ls part with
 | none=>(A,ls,110)
 | some L=>((L.sync A).1,ls.set part.toNat (L.synced (L.sync A).2),(L.sync A).2)
def e9 (k:Nat) (ls:List aU):Prop:=ls.length≤4∧∀ L∈ls,L.Fit k
theorem e9.grow {k k':Nat} {ls:List aU} (I:e9 k ls) (hk:k≤k') (hk':k'≤100000):e9 k' ls:=⟨I.1,fun L hL=>(I.2 L hL).grow hk hk'⟩
theorem e9.set {k:Nat} {ls:List aU} {L:aU} (I:e9 k ls) (hL:L.Fit k) (i:Nat):e9 k (ls.set i L):=by
 refine ⟨by rw [length_set]; exact I.1,fun x hx=>?_⟩
 rcases List.mem_or_eq_of_mem_set hx with h | h
 · exact I.2 x h
 · rw [h]; exact hL
theorem qM {ls:List aU} {part:Int} {L:aU} (h:dD ls part=some L):0≤part∧ls[part.toNat]? = some L∧part<ls.length∧L∈ls:=by
 unfold dD at h
 split at h
 · cases h
 · have:=(ak.1 h).1;exact ⟨by omega,h,by omega,aj h⟩
theorem A6 {ls:List aU} {A:FS} {part:Int} {b:List Nat} {k:Nat} (W:A.WF) (I:e9 k ls) (hk:k+1<100000) (h8:B8 b) :
  (iS ls A part b).1.WF∧Gr 4 A (iS ls A part b).1∧e9 (k+2) (iS ls A part b).2.1∧(iS ls A part b).2.1.length=ls.length:=by
 unfold iS
 cases h:dD ls part with
 | none=>exact ⟨W,Gr.same _ A,I.grow (by omega) (by omega),rfl⟩
 | some L=>
   obtain ⟨_,_,_,hm⟩:=qM h;have I1:=I.2 L hm;obtain ⟨a,b1,c⟩:=aU.append_keeps (b:=b) W I1.small hk h8;exact ⟨a,aU.append_gr h8,(I.grow (by omega) (by omega)).set (I1.append W hk h8) _,length_set ..⟩
theorem yb {ls:List aU} {A:FS} {part:Int} {k:Nat} (W:A.WF) (I:e9 k ls) :
  (fI ls A part).1.WF∧Gr 4 A (fI ls A part).1∧e9 k (fI ls A part).2.1∧(fI ls A part).2.1.length=ls.length:=by
 unfold fI
 cases h:dD ls part with
 | none=>exact ⟨W,Gr.same _ A,I,rfl⟩
 | some L=>
   obtain ⟨_,_,_,hm⟩:=qM h;have I1:=I.2 L hm;exact ⟨aU.sync_wf W,aU.sync_gr.le (by decide),I.set (I1.synced _) _,length_set ..⟩
abbrev Rg:=Int×Int
def lf (p:Rg):Bool:=decide (0≤p.1)&&decide (p.1≤p.2)&&decide (p.2≤1099511627776)
def cx (l:List Rg):Bool:=decide (1≤l.length)&&decide (l.length≤4)&&l.all lf
def over (ls:List aU) (l:List Rg):Bool:=(zipWith (fun (p:Rg) (L:aU)=>decide ((L.dur:Int)<p.2)) l ls).any id
def cH (ls:List aU) (l:List Rg):Nat:=if cx l=false∨l.length≠ls.length then 80 else if over ls l then 101 else 0
theorem dZ {ls:List aU} {l:List Rg} (h:cH ls l=0):l.length=ls.length∧(∀ p∈l,lf p=true)∧over ls l=false:=by
 unfold cH at h
 split at h
 · cases h
 · rename_i h1;split at h
   · cases h
   · rename_i h2;have hr:cx l=true:=by
      cases hr:cx l with
      | true=>rfl
      | false=>exact absurd (.inl hr) h1
     unfold cx at hr;simp only [ay,List.all_eq_true] at hr;refine ⟨Decidable.byContradiction fun hh=>h1 (.inr hh),hr.2,by cases ho:over ls l with
      | false=>rfl
      | true=>exact absurd ho h2⟩
def dd (ls:List aU) (l:List Rg):List Int:=zipWith (fun (p:Rg) (L:aU)=>(L.dur:Int) - p.2) l ls
def planOf (was:List Rg) (d:LP):List Rg:=zipWith (fun (p:Rg) (q:Int×Int)=>(p.2,p.2+q.2)) was d
def j5 (ls:List aU) (was:List Rg) (most:Int) (r:Except Nat (List Rg)):Prop:=
 (r=.error 2∧(most<1∨1024<most))∨(¬ (most<1∨1024<most)∧cH ls was≠0∧r=.error (cH ls was))∨
 (¬ (most<1∨1024<most)∧cH ls was=0∧∃ d,j4 (zs (dd ls was)) most d∧d.map (·.1)=dd ls was∧Dl.Fits d∧r=.ok (planOf was d))
theorem j5.uniq {ls:List aU} {was:List Rg} {most:Int} {r s:Except Nat (List Rg)} (h:j5 ls was most r) (h2:j5 ls was most s):r=s:=by
 rcases h with ⟨rfl,h⟩ | ⟨h0,h1,rfl⟩ | ⟨h0,h1,d,hd,_,_,rfl⟩ <;> rcases h2 with ⟨rfl,k⟩ | ⟨k0,k1,rfl⟩ | ⟨k0,k1,e,he,_,_,rfl⟩
 · rfl
 · exact absurd h k0
 · exact absurd h k0
 · exact absurd k h0
 · rfl
 · exact absurd k1 h1
 · exact absurd k h0
 · exact absurd h1 k1
 · rw [hd.uniq he]
abbrev nM:=Nat×Int×List Nat
def cZ (k:Nat) (fr:Int) (b:List (List Nat)):List nM:=b.mapIdx fun i x=>(k,fr+i,x)
def cj (A:FS):List aU→List Rg→Nat→List nM→Except Nat (List nM)
 | L::ls,p::l,k,out=>match L.read A p.1 p.2 with
   | .error e=>.error e
   | .ok b=>cj A ls l (k+1) (out++cZ k p.1 b)
 | _,_,_,out=>.ok out
def fx (ls:List aU) (A:FS) (l:List Rg):Except Nat (List nM):=if cH ls l≠0 then .error (cH ls l) else cj A ls l 0 []
end AF
end Go.Proofs.YtdpaiiibndnanaaGreatDoor
