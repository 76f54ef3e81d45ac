/- A file system as plain data: what the calls do,after the document. What always holds of a file system stays,whatever is called. What crashes leave: plain. -/
import Derived.Test.YtdpaiiibndnanaaGreatDoorQpFwB
import Derived.Sort.Walk0
namespace Go.Proofs.YtdpaiiibndnanaaGreatDoor
open Go.IntKind (wrap)
open List (mem_of_mem_take getD_eq_getElem?_getD append_assoc filter_cons map_cons map_congr_left length_filter_le mem_singleton append_nil le_antisymm pairwise_map pairwise_singleton nodup_cons find?_cons find?_eq_none flatMap_cons getElem?_of_mem flatMap_append length_modify length_nil findIdx?_eq_none_iff findIdx?_eq_some_iff_getElem sum_cons getElem?_eq_none_iff)
namespace AF
def ji (a b:ByteArray):Bool:=decide (a.data.toList<b.data.toList)
set_option linter.unusedVariables false
structure cV where
 b:List Nat
 safe:Nat
instance:Inhabited cV:=⟨⟨[],0⟩⟩
abbrev bG:=List (ByteArray×Nat)
inductive Op where
 | create (n:ByteArray) (f:Nat)
 | rename (a b:ByteArray)
 | remove (a:ByteArray)
structure cu where
 name:ByteArray
 now:bG
 base:bG
 pend:List Op
instance:Inhabited cu:=⟨⟨.empty,[],[],[]⟩⟩
structure FS where
 room:Nat
 steps:Nat
 fuse:Option Nat
 off:Bool
 files:List cV
 dirs:List cu
def of (l:bG) (n:ByteArray):Option Nat:=(l.find? fun p=>decide (p.1=n)).map (·.2)
def drop (l:bG) (n:ByteArray):bG:=l.filter fun p => !decide (p.1=n)
def ins (n:ByteArray) (f:Nat):bG→bG
 | []=>[(n,f)]
 | p::l=>if p.1=n then (n,f)::l else if ji n p.1 then (n,f)::p::l else p::ins n f l
def does (l:bG):Op→bG
 | .create n f=>ins n f l
 | .rename a b=>match of l a with
   | some f=>ins b f (drop l a)
   | none=>drop l a
 | .remove a=>drop l a
def right (s:ByteArray):Bool:=decide (1≤s.size)&&decide (s.size≤32)&&s.data.toList.all fun c=>(decide (97≤c.toNat)&&decide (c.toNat≤122))||(decide (48≤c.toNat)&&decide (c.toNat≤57))||decide (c.toNat=46)
def FS.at (f:FS) (n:ByteArray):Option Nat:=f.dirs.findIdx? fun d=>decide (d.name=n)
def FS.D (f:FS) (i:Nat):cu:=f.dirs.getD i default
def FS.X (f:FS) (i:Nat):cV:=f.files.getD i default
def FS.idx (f:FS):List Nat:=f.dirs.flatMap fun d=>d.now.map (·.2)
def FS.used (f:FS):Nat:=(f.idx.map fun x=>(f.X x).b.length).sum
def FS.named (f:FS) (dir:ByteArray) (ss:List ByteArray):Except Nat Nat:=
 if right dir&&ss.all right then match f.at dir with
  | some i=>.ok i
  | none=>.error 61
 else .error 65
def FS.ready (f:FS) (dir:ByteArray) (ss:List ByteArray):Except Nat Nat:=if f.off then .error 60 else f.named dir ss
def FS.stepOn (f:FS):FS:={ f with fuse:=f.fuse.map (· - 1),steps:=f.steps+1 }
def FS.step (f:FS) (g:FS→FS):FS×Nat:=if f.fuse=some 0 then ({ f with off:=true },60) else (g f.stepOn,0)
def FS.setDir (f:FS) (i:Nat) (g:cu→cu):FS:={ f with dirs:=f.dirs.modify i g }
def FS.setFile (f:FS) (i:Nat) (g:cV→cV):FS:={ f with files:=f.files.modify i g }
def cu.did (d:cu) (o:Op):cu:={ d with now:=does d.now o,pend:=d.pend++[o] }
def FS.did (f:FS) (i:Nat) (o:Op):FS:=f.setDir i (·.did o)
def cJ (d:cu):List cu→List cu
 | []=>[d]
 | e::l=>if ji d.name e.name then d::e::l else e::cJ d l
def FS.mkdir (f:FS) (dir:ByteArray):FS×Nat:=match f.ready dir [] with
 | .ok _=>(f,63)
 | .error e=>if e=61 then (if 64≤f.dirs.length then (f,66) else f.step fun g=>{ g with dirs:=cJ ⟨dir,[],[],[]⟩ g.dirs }) else (f,e)
def FS.create (f:FS) (dir name:ByteArray):FS×Nat:=match f.ready dir [name] with
 | .error e=>(f,e)
 | .ok i=>if (of (f.D i).now name).isSome then (f,63) else if 4096≤(f.D i).now.length then (f,66) else f.step fun g=>FS.did { g with files:=g.files++[⟨[],0⟩] } i (.create name g.files.length)
def FS.entry (f:FS) (dir name:ByteArray):Except Nat (Nat×Nat):=match f.ready dir [name] with
 | .error e=>.error e
 | .ok i=>match of (f.D i).now name with
   | some x=>.ok (i,x)
   | none=>.error 62
def FS.append (f:FS) (dir name:ByteArray) (b:List Nat):FS×Nat:=match f.entry dir name with
 | .error e=>(f,e)
 | .ok (_,x)=>if 16777216<(f.X x).b.length+b.length then (f,67) else if f.room<f.used+b.length then (f,64) else f.step fun g=>g.setFile x fun y=>{ y with b:=y.b++b }
def FS.sync (f:FS) (dir name:ByteArray):FS×Nat:=match f.entry dir name with
 | .error e=>(f,e)
 | .ok (_,x)=>f.step fun g=>g.setFile x fun y=>{ y with safe:=y.b.length }
def FS.syncDir (f:FS) (dir:ByteArray):FS×Nat:=match f.ready dir [] with
 | .error e=>(f,e)
 | .ok i=>f.step fun g=>g.setDir i fun d=>{ d with base:=d.now,pend:=[] }
def FS.rename (f:FS) (dir a b:ByteArray):FS×Nat:=match f.ready dir [a,b] with
 | .error e=>(f,e)
 | .ok i=>if (of (f.D i).now a).isNone then (f,62) else f.step fun g=>g.did i (.rename a b)
def FS.remove (f:FS) (dir a:ByteArray):FS×Nat:=match f.entry dir a with
 | .error e=>(f,e)
 | .ok (i,_)=>f.step fun g=>g.did i (.remove a)
def FS.read (f:FS) (dir name:ByteArray):Except Nat (List Nat):=match f.entry dir name with
 | .error e=>.error e
 | .ok (_,x)=>.ok (f.X x).b
def FS.list (f:FS) (dir:ByteArray):Except Nat (List ByteArray):=match f.ready dir [] with
 | .error e=>.error e
 | .ok i=>.ok ((f.D i).now.map (·.1))
def FS.setFuse (f:FS) (n:Int):FS×Nat:=if n<0 then (f,2) else ({ f with fuse:=some n.toNat },0)
def FS.setRoom (f:FS) (n:Int):FS×Nat:=if n<0∨1073741824<n then (f,2) else ({ f with room:=n.toNat },0)
def gC (l:bG) (os:List Op):bG:=os.foldl does l
def pick (l:List Int) (n:Nat):Nat×List Int:=match l with
 | []=>(0,[])
 | p::l=>((wrap .u64 p).toNat%(n+1),l)
def bW:List cu→List Int→List cu×List Int
 | [],l=>([],l)
 | d::ds,l=>
   let k:=pick l d.pend.length
   let r:=bW ds k.2
   (⟨d.name,gC d.base (d.pend.take k.1),gC d.base (d.pend.take k.1),[]⟩::r.1,r.2)
def cr:List Nat→List cV→List Int→List cV×List Int
 | [],fs,l=>(fs,l)
 | x::xs,fs,l=>
   let y:=fs.getD x default
   let k:=pick l (y.b.length - y.safe)
   cr xs (fs.set x ⟨y.b.take (y.safe+k.1),y.safe+k.1⟩) k.2
def FS.crash (f:FS) (picks:List Int):FS:=
 let r:=bW f.dirs picks
 let g:FS:={ f with dirs:=r.1,off:=false,fuse:=none }
 { g with files:=(cr g.idx g.files r.2).1 }
theorem kI (a b:ByteArray):ji a b=true↔a.data.toList<b.data.toList:=decide_eq_true_iff
theorem lS (a b:ByteArray):kb a b=ji a b:=by
 unfold kb ji
 rw [bytesLess_eq,Lib.toList_data,Lib.toList_data]
theorem cI (a:ByteArray):¬ ji a a=true:=by rw [kI]; exact List.lt_irrefl _
theorem fW {a b c:ByteArray} (h1:ji a b=true) (h2:ji b c=true):ji a c=true:=by
 rw [kI] at *
 exact List.lt_trans h1 h2
theorem iU {a b:ByteArray} (h:a≠b) (h1:¬ ji a b=true):ji b a=true:=by
 rw [kI] at *
 rcases List.le_total b.data.toList a.data.toList with h2 | h2
 · rcases Decidable.em (b.data.toList<a.data.toList) with h3 | h3
   · exact h3
   · exact absurd (le_antisymm (List.not_lt.1 h3) h2) fun e=>h (by cases a; cases b; simp at e; exact congrArg _ e)
 · exact absurd (le_antisymm h2 (List.not_lt.1 h1)) fun e=>h (by cases a; cases b; simp at e; exact congrArg _ e)
theorem gT {α:Type} {p:α→Bool} {l:List α} {a:α} (h:a∈l.filter p):a∈l:=(List.mem_filter.1 h).1
def Up (l:bG):Prop:=l.Pairwise fun p q=>ji p.1 q.1=true
structure Ok (n:Nat) (l:bG):Prop where
 up:Up l
 each:∀ p∈l,p.2<n∧right p.1=true
 once:(l.map (·.2)).Nodup
 few:l.length≤4096
def Fits (n:Nat) (l:bG):Op→Prop
 | .create a f=>right a=true∧f<n∧f∉l.map (·.2)∧l.length<4096
 | .rename a b=>right a=true∧right b=true∧(of l a).isSome
 | .remove a=>right a=true
theorem Up.nodup {l:bG} (h:Up l):(l.map (·.1)).Nodup:=by
 rw [List.Nodup,pairwise_map]
 refine List.Pairwise.imp ?_ h
 intro a b hab e
 rw [← e] at hab
 exact cI a.1 hab
theorem Up.drop {l:bG} (h:Up l) (a:ByteArray):Up (drop l a):=List.Pairwise.filter _ h
theorem q7 {l:bG} {a:ByteArray} (h:∀ p∈l,p.1≠a):drop l a=l:=List.filter_eq_self.2 fun p hp=>by simpa using h p hp
theorem iG {n:ByteArray} {f:Nat}:∀ {l:bG},Up l→(ins n f l).Perm ((n,f)::drop l n)
 | [],_=>.refl _
 | p::l,h=>by
   have h2:=List.pairwise_cons.1 h;unfold ins;by_cases he:p.1=n
   · rw [an he];have:drop (p::l) n=l:=by
      unfold drop;rw [filter_cons,am (by simp [he])];exact q7 fun q hq e=>cI n (by have:=h2.1 q hq; rw [he,e] at this; exact this)
     rw [this]
   · rw [am he];by_cases hl:ji n p.1=true
     · rw [an hl,q7];intro q hq e
       rcases aA.1 hq with rfl | hq
       · exact he e
       · have:=fW hl (h2.1 q hq);rw [e] at this;exact cI _ this
     · rw [am hl];have:drop (p::l) n=p::drop l n:=by
        unfold drop;rw [filter_cons,an (by simp [he])]
       rw [this];exact ((iG h2.2).cons p).trans (.swap _ _ _)
theorem uV {n:ByteArray} {f:Nat}:∀ {l:bG},Up l→Up (ins n f l)
 | [],_=>by unfold ins; exact pairwise_singleton _ _
 | p::l,h=>by
   have h2:=List.pairwise_cons.1 h;unfold ins;by_cases he:p.1=n
   · rw [an he];exact List.pairwise_cons.2 ⟨fun q hq=>by have:=h2.1 q hq; rw [he] at this; exact this,h2.2⟩
   · rw [am he];by_cases hl:ji n p.1=true
     · rw [an hl];refine List.pairwise_cons.2 ⟨fun q hq=>?_,h⟩
       rcases aA.1 hq with rfl | hq
       · exact hl
       · exact fW hl (h2.1 q hq)
     · rw [am hl];refine List.pairwise_cons.2 ⟨fun q hq=>?_,uV h2.2⟩;have hm:=(iG h2.2).mem_iff.1 hq
       rcases aA.1 hm with rfl | hm
       · exact iU (fun e=>he e.symm) hl
       · exact h2.1 q (gT hm)
theorem jc {l:bG} {a:ByteArray} {f:Nat} (h:of l a=some f):(a,f)∈l:=by
 unfold of at h
 cases hf:l.find? (fun p=>decide (p.1=a)) with
 | none=>rw [hf] at h; cases h
 | some p=>
   rw [hf] at h;simp only [Option.map_some,Option.some.injEq] at h;have h1:=List.find?_some hf;simp only [decide_eq_true_eq] at h1;have h2:=List.mem_of_find?_eq_some hf;rw [← h,← h1];exact h2
theorem uN {l:bG} (hu:(l.map (·.1)).Nodup) {a:ByteArray} {f:Nat} (h:(a,f)∈l):of l a=some f:=by
 induction l with
 | nil=>cases h
 | cons q l ih=>
   simp only [map_cons,nodup_cons] at hu;unfold of;rw [find?_cons]
   rcases aA.1 h with rfl | h
   · simp
   · have hne:q.1≠a:=fun e=>hu.1 (by rw [e]; exact List.mem_map.2 ⟨(a,f),h,rfl⟩);simp only [hne,decide_false];exact ih hu.2 h
theorem AD {l:bG} {a:ByteArray} (h:of l a=none):∀ p∈l,p.1≠a:=by
 unfold of at h
 simp only [Option.map_eq_none_iff,find?_eq_none,decide_eq_true_eq] at h
 exact h
theorem Ok.drop {n:Nat} {l:bG} (h:Ok n l) (a:ByteArray):Ok n (drop l a):=
 ⟨h.up.drop a,fun p hp=>h.each p (gT hp),List.Pairwise.sublist (List.Sublist.map _ List.filter_sublist) h.once,Nat.le_trans (length_filter_le _ _) h.few⟩
theorem Ok.ins {n:Nat} {l:bG} (h:Ok n l) {a:ByteArray} {f:Nat} (ha:right a=true) (hf:f<n) (hn:f∉l.map (·.2)) (hl:l.length<4096):Ok n (ins a f l):=by
 have hp:=iG (n:=a) (f:=f) h.up
 refine ⟨uV h.up,fun p hm=>?_,?_,?_⟩
 · rcases aA.1 (hp.mem_iff.1 hm) with rfl | hm
   · exact ⟨hf,ha⟩
   · exact h.each p (gT hm)
 · rw [(hp.map (·.2)).nodup_iff];simp only [map_cons,nodup_cons];refine ⟨fun hm=>hn ?_,(h.drop a).once⟩;obtain ⟨p,hp,e⟩:=List.mem_map.1 hm;exact List.mem_map.2 ⟨p,gT hp,e⟩
 · rw [hp.length_eq,ar];have:=length_filter_le (fun p:ByteArray×Nat => !decide (p.1=a)) l;unfold AF.drop;omega
theorem vQ {l:bG} {a:ByteArray} (h:(of l a).isSome):(drop l a).length<l.length:=by
 obtain ⟨f,hf⟩:=Option.isSome_iff_exists.1 h
 have hm:=jc hf
 unfold drop
 exact List.length_filter_lt_length_iff_exists.2 ⟨_,hm,by simp⟩
theorem Ok.does {n:Nat} {l:bG} (h:Ok n l) {o:Op} (hf:Fits n l o):Ok n (does l o):=by
 cases o with
 | create a f=>exact h.ins hf.1 hf.2.1 hf.2.2.1 hf.2.2.2
 | remove a=>exact h.drop a
 | rename a b=>
   obtain ⟨ha,hb,hs⟩:=hf;have hlt:=vQ hs;obtain ⟨f,hf⟩:=Option.isSome_iff_exists.1 hs;simp only [AF.does,hf];have hm:=jc hf;refine (h.drop a).ins hb (h.each _ hm).1 ?_ (by have:=h.few; omega);intro hx;obtain ⟨p,hp,e⟩:=List.mem_map.1 hx;have hp2:=List.mem_filter.1 hp;have hone:=h.once;have:p=(a,f):=by
    have hn:l.Pairwise fun p q=>p.2≠q.2:=List.pairwise_map.1 hone;refine Classical.byContradiction fun hne=>?_;have h1:l.Pairwise fun p q=>p≠q→p.2≠q.2:=List.Pairwise.imp (by intro a b h _; exact h) hn;have h2:l.Pairwise fun p q=>q≠p→q.2≠p.2:=List.Pairwise.imp (by intro a b h _ e; exact h e.symm) hn;exact (List.Pairwise.forall_of_forall_of_flip (R:=fun p q:ByteArray×Nat=>p≠q→p.2≠q.2) (fun x _ h=>absurd rfl h) h1 h2 hp2.1 hm hne) e
   rw [this] at hp2;simp at hp2
def ij (n:Nat):bG→List Op→Prop
 | l,[]=>Ok n l
 | l,o::os=>Ok n l∧Fits n l o∧ij n (does l o) os
theorem ij.first {n:Nat} {l:bG} {os:List Op} (h:ij n l os):Ok n l:=by
 cases os with
 | nil=>exact h
 | cons o os=>exact h.1
theorem ij.last {n:Nat}:∀ {os:List Op} {l:bG},ij n l os→Ok n (gC l os)
 | [],l,h=>h
 | o::os,l,h=>ij.last (os:=os) h.2.2
theorem ij.take {n:Nat}:∀ {os:List Op} {l:bG} (k:Nat),ij n l os→ij n l (os.take k)
 | [],l,k,h=>by simpa using h
 | o::os,l,0,h=>h.1
 | o::os,l,k+1,h=>⟨h.1,h.2.1,ij.take k h.2.2⟩
theorem ij.snoc {n:Nat}:∀ {os:List Op} {l:bG} {o:Op},ij n l os→Fits n (gC l os) o→ij n l (os++[o])
 | [],l,o,h,hf=>⟨h,hf,h.does hf⟩
 | p::os,l,o,h,hf=>⟨h.1,h.2.1,ij.snoc h.2.2 hf⟩
theorem mK (l:bG) (os:List Op) (o:Op):gC l (os++[o])=does (gC l os) o:=by simp [gC]
theorem ij.at {n:Nat}:∀ {os:List Op} {l:bG} (k:Nat) {o:Op},ij n l os→os[k]? = some o→Ok n (gC l (os.take k))∧Fits n (gC l (os.take k)) o
 | [],l,k,o,h,hk=>by simp at hk
 | p::os,l,0,o,h,hk=>by simp at hk; subst hk; exact ⟨h.1,h.2.1⟩
 | p::os,l,k+1,o,h,hk=>ij.at (os:=os) k h.2.2 (by simpa using hk)
theorem Ok.grow {n m:Nat} {l:bG} (h:Ok n l) (hm:n≤m):Ok m l:=⟨h.up,fun p hp=>⟨by have:=(h.each p hp).1; omega,(h.each p hp).2⟩,h.once,h.few⟩
theorem Fits.grow {n m:Nat} {l:bG} {o:Op} (h:Fits n l o) (hm:n≤m):Fits m l o:=by
 cases o with
 | create a f=>exact ⟨h.1,by have:=h.2.1; omega,h.2.2⟩
 | rename a b=>exact h
 | remove a=>exact h
theorem ij.grow {n m:Nat}:∀ {os:List Op} {l:bG},ij n l os→n≤m→ij m l os
 | [],l,h,hm=>Ok.grow h hm
 | o::os,l,h,hm=>⟨h.1.grow hm,h.2.1.grow hm,ij.grow h.2.2 hm⟩
def dO:Op→List Nat
 | .create _ f=>[f]
 | _=>[]
def cu.speaks (d:cu):List Nat:=d.base.map (·.2)++d.pend.flatMap dO
theorem pz {l:bG} {o:Op} {x:Nat} (h:x∈(does l o).map (·.2)) (hu:Up l):x∈l.map (·.2)∨x∈dO o:=by
 have hd:∀ a,x∈(drop l a).map (·.2)→x∈l.map (·.2):=fun a h=>by
  obtain ⟨p,hp,e⟩:=List.mem_map.1 h;exact List.mem_map.2 ⟨p,gT hp,e⟩
 cases o with
 | create a f=>
   have:=(((iG (n:=a) (f:=f) hu).map (·.2)).mem_iff).1 h
   rcases aA.1 this with rfl | h
   · exact .inr (by simp [dO])
   · exact .inl (hd a h)
 | remove a=>exact .inl (hd a h)
 | rename a b=>
   cases hf:of l a with
   | none=>simp only [AF.does,hf] at h; exact .inl (hd a h)
   | some f=>
     simp only [AF.does,hf] at h;have:=(((iG (n:=b) (f:=f) (hu.drop a)).map (·.2)).mem_iff).1 h
     rcases aA.1 this with rfl | h
     · exact .inl (List.mem_map.2 ⟨_,jc hf,rfl⟩)
     · obtain ⟨p,hp,e⟩:=List.mem_map.1 h;exact .inl (hd a (List.mem_map.2 ⟨p,gT hp,e⟩))
theorem lE {n:Nat}:∀ {os:List Op} {l:bG} {x:Nat},ij n l os→x∈(gC l os).map (·.2)→x∈l.map (·.2)++os.flatMap dO
 | [],l,x,_,h=>by simpa [gC] using h
 | o::os,l,x,hr,h=>by
   have:=lE (os:=os) hr.2.2 h
   rcases List.mem_append.1 this with h | h
   · rcases pz h hr.1.up with h | h
     · exact List.mem_append.2 (.inl h)
     · exact List.mem_append.2 (.inr (by rw [flatMap_cons]; exact List.mem_append.2 (.inl h)))
   · exact List.mem_append.2 (.inr (by rw [flatMap_cons]; exact List.mem_append.2 (.inr h)))
theorem qp {n:Nat}:∀ {os:List Op} {l:bG} {x:Nat},ij n l os→x∈l.map (·.2)++os.flatMap dO→x<n
 | [],l,x,hr,h=>by
   obtain ⟨p,hp,e⟩:=List.mem_map.1 (by simpa using h:x∈l.map (·.2));rw [← e];exact ((hr:Ok n l).each p hp).1
 | o::os,l,x,hr,h=>by
   rcases List.mem_append.1 h with h | h
   · obtain ⟨p,hp,e⟩:=List.mem_map.1 h;rw [← e];exact (hr.1.each p hp).1
   · rw [flatMap_cons] at h
     rcases List.mem_append.1 h with h | h
     · cases o with
       | create a f=>simp [dO] at h; rw [h]; exact hr.2.1.2.1
       | rename a b=>simp [dO] at h
       | remove a=>simp [dO] at h
     · exact qp (os:=os) hr.2.2 (List.mem_append.2 (.inr h))
structure cu.WF (n s:Nat) (d:cu):Prop where
 name:right d.name=true
 now:d.now=gC d.base d.pend
 runs:ij n d.base d.pend
 pend:d.pend.length≤s
theorem cu.WF.ok {n s:Nat} {d:cu} (h:d.WF n s):Ok n d.now:=by rw [h.now]; exact h.runs.last
structure FS.WF (f:FS):Prop where
 room:f.room≤1073741824
 up:f.dirs.Pairwise fun d e=>ji d.name e.name=true
 each:∀ d∈f.dirs,d.WF f.files.length f.steps
 apart:f.dirs.Pairwise fun d e=>∀ x∈d.speaks,x∉e.speaks
 files:∀ x∈f.files,x.safe≤x.b.length∧x.b.length≤16777216∧B8 x.b
 few:f.dirs.length≤64
 fuse:∀ n,f.fuse=some n→n≤9223372036854775807
end AF
namespace AF
set_option linter.unusedVariables false
theorem dl {α:Type} {R:α→α→Prop} {g:α→α}:∀ (l:List α) (i:Nat),l.Pairwise R→(∀ d,l[i]? = some d→∀ e∈l,(R e d→R e (g d))∧(R d e→R (g d) e))→(l.modify i g).Pairwise R
 | [],i,h,hg=>by simp
 | a::l,0,h,hg=>by
   have h2:=List.pairwise_cons.1 h;rw [List.modify_zero_cons];exact List.pairwise_cons.2 ⟨fun e he=>(hg a rfl e (aD _ he)).2 (h2.1 e he),h2.2⟩
 | a::l,i+1,h,hg=>by
   have h2:=List.pairwise_cons.1 h;rw [List.modify_succ_cons];refine List.pairwise_cons.2 ⟨fun e he=>?_,dl l i h2.2 fun d hd e he=>hg d (by simpa using hd) e (aD _ he)⟩;obtain ⟨j,hj⟩:=getElem?_of_mem he;rw [gH] at hj
   cases hlj:l[j]? with
   | none=>rw [hlj] at hj; cases hj
   | some d=>
     rw [hlj] at hj;simp only [Option.map_some,Option.some.injEq] at hj;by_cases hij:i=j
     · rw [an hij] at hj;rw [← hj];subst hij;exact (hg d (by simpa using hlj) a (by simp)).1 (h2.1 d (aj hlj))
     · rw [am hij] at hj;rw [← hj];exact h2.1 d (aj hlj)
theorem gF {α:Type} {g:α→α} {l:List α} {i:Nat} {e:α} (h:e∈l.modify i g):e∈l∨∃ d,l[i]? = some d∧e=g d:=by
 obtain ⟨j,hj⟩:=getElem?_of_mem h
 rw [gH] at hj
 cases hlj:l[j]? with
 | none=>rw [hlj] at hj; cases hj
 | some d=>
   rw [hlj] at hj;simp only [Option.map_some,Option.some.injEq] at hj;by_cases hij:i=j
   · rw [an hij] at hj;subst hij;exact .inr ⟨d,hlj,hj.symm⟩
   · rw [am hij] at hj;exact .inl (by rw [← hj]; exact aj hlj)
theorem cu.WF.grow {n m s t:Nat} {d:cu} (h:d.WF n s) (hn:n≤m) (hs:s≤t):d.WF m t:=⟨h.name,h.now,h.runs.grow hn,Nat.le_trans h.pend hs⟩
variable {f:FS}
theorem FS.WF.stepOn (h:f.WF):f.stepOn.WF:=
 ⟨h.room,h.up,fun d hd=>(h.each d hd).grow (ax _) (Nat.le_succ _),h.apart,h.files,h.few,fun n hn=>by
  unfold FS.stepOn at hn;simp only [Option.map_eq_some_iff] at hn;obtain ⟨k,hk,e⟩:=hn;have:=h.fuse k hk;omega⟩
theorem FS.WF.down (h:f.WF):FS.WF { f with off:=true }:=⟨h.room,h.up,h.each,h.apart,h.files,h.few,h.fuse⟩
theorem FS.WF.step {g:FS→FS} (h:f.WF) (hg:(g f.stepOn).WF):(f.step g).1.WF:=by
 unfold FS.step
 split
 · exact h.down
 · exact hg
theorem jo {d:cu} {n s:Nat} (h:d.WF n s) {x:Nat} (hx:x∈d.speaks):x<n:=qp h.runs hx
theorem fS {d:cu} {n s:Nat} (h:d.WF n s) {x:Nat} (hx:x∈d.now.map (·.2)):x∈d.speaks:=by
 rw [h.now] at hx
 exact lE h.runs hx
theorem pB {d:cu} {o:Op} {x:Nat} (h:x∈(d.did o).speaks):x∈d.speaks∨x∈dO o:=by
 unfold cu.speaks cu.did at h
 simp only [flatMap_append,flatMap_cons,List.flatMap_nil,append_nil] at h
 rw [← append_assoc] at h
 exact List.mem_append.1 h
theorem FS.WF.did (h:f.WF) {i:Nat} {d:cu} {o:Op} (hd:f.dirs[i]? = some d) (hf:Fits f.files.length d.now o) (hn:∀ x∈dO o,∀ e∈f.dirs,x∉e.speaks) (hp:d.pend.length<f.steps):(f.did i o).WF:=by
 refine ⟨h.room,dl _ _ h.up fun d' hd' e he=>⟨fun k=>k,fun k=>k⟩,fun e he=>?_,dl _ _ h.apart fun d' hd' e he=>⟨fun k x hx hx2=>?_,fun k x hx hx2=>?_⟩,h.files,by show (List.modify _ _ _).length≤64; rw [length_modify]; exact h.few,h.fuse⟩
 · rcases gF he with he | ⟨d',hd',rfl⟩
   · exact h.each e he
   · rw [hd] at hd';cases hd';have w:=h.each d (aj hd);refine ⟨w.name,?_,w.runs.snoc (by rw [← w.now]; exact hf),?_⟩
     · show does d.now o=gC d.base (d.pend++[o]);rw [mK,← w.now]
     · show (d.pend++[o]).length≤f.steps;rw [ao];simp only [ar,length_nil];omega
 · rcases pB hx2 with h1 | h1
   · exact k x hx h1
   · exact hn x h1 e he hx
 · rcases pB hx with h1 | h1
   · exact k x h1 hx2
   · exact hn x h1 e he hx2
theorem FS.WF.newFile (h:f.WF):FS.WF { f with files:=f.files++[⟨[],0⟩] }:=
 ⟨h.room,h.up,fun d hd=>(h.each d hd).grow (by simp) (ax _),h.apart,fun x hx=>by
  rcases List.mem_append.1 hx with hx | hx
  · exact h.files x hx
  · simp only [mem_singleton] at hx;subst hx;exact ⟨ax _,by simp,fun n hn=>by cases hn⟩,h.few,h.fuse⟩
theorem FS.WF.setFile (h:f.WF) {i:Nat} {g:cV→cV} (hg:∀ y,f.files[i]? = some y→(g y).safe≤(g y).b.length∧(g y).b.length≤16777216∧B8 (g y).b):(f.setFile i g).WF:=
 ⟨h.room,h.up,fun d hd=>by show d.WF (f.files.modify i g).length f.steps; rw [length_modify]; exact h.each d hd,h.apart,fun x hx=>by
  rcases gF hx with hx | ⟨y,hy,rfl⟩
  · exact h.files x hx
  · exact hg y hy,h.few,h.fuse⟩
theorem FS.WF.settle (h:f.WF) {i:Nat}:(f.setDir i fun d=>{ d with base:=d.now,pend:=[] }).WF:=by
 refine ⟨h.room,dl _ _ h.up fun d' hd' e he=>⟨fun k=>k,fun k=>k⟩,fun e he=>?_,dl _ _ h.apart fun d' hd' e he=>⟨fun k x hx hx2=>?_,fun k x hx hx2=>?_⟩,h.files,by show (List.modify _ _ _).length≤64; rw [length_modify]; exact h.few,h.fuse⟩
 · rcases gF he with he | ⟨d',hd',rfl⟩
   · exact h.each e he
   · have w:=h.each d' (aj hd');exact ⟨w.name,rfl,w.ok,aw _⟩
 · have w:=h.each d' (aj hd');exact k x hx (fS w (by simpa [cu.speaks] using hx2))
 · have w:=h.each d' (aj hd');exact k x (fS w (by simpa [cu.speaks] using hx)) hx2
theorem gV (d:cu):∀ l:List cu,(cJ d l).Perm (d::l)
 | []=>.refl _
 | e::l=>by
   unfold cJ;split
   · exact .refl _
   · exact ((gV d l).cons e).trans (.swap _ _ _)
theorem qS {d:cu}:∀ {l:List cu},(l.Pairwise fun d e:cu=>ji d.name e.name=true)→(∀ e∈l,e.name≠d.name)→(cJ d l).Pairwise fun d e:cu=>ji d.name e.name=true
 | [],_,_=>pairwise_singleton _ _
 | e::l,h,hn=>by
   have h2:=List.pairwise_cons.1 h;unfold cJ;split
   · rename_i hl;refine List.pairwise_cons.2 ⟨fun q hq=>?_,h⟩
     rcases aA.1 hq with rfl | hq
     · exact hl
     · exact fW hl (h2.1 q hq)
   · rename_i hl;refine List.pairwise_cons.2 ⟨fun q hq=>?_,qS h2.2 fun e he=>hn e (aD _ he)⟩
     rcases aA.1 ((gV d l).mem_iff.1 hq) with rfl | hq
     · exact iU (fun e'=>hn e (by simp) e'.symm) hl
     · exact h2.1 q hq
theorem og {n:ByteArray} (h:f.at n=none):∀ e∈f.dirs,e.name≠n:=by
 unfold FS.at at h
 rw [findIdx?_eq_none_iff] at h
 intro e he
 simpa using h e he
theorem oe {n:ByteArray} {i:Nat} (h:f.at n=some i):∃ d,f.dirs[i]? = some d∧d.name=n:=by
 unfold FS.at at h
 rw [findIdx?_eq_some_iff_getElem] at h
 obtain ⟨hi,hd,_⟩:=h
 exact ⟨f.dirs[i],ai hi,by simpa using hd⟩
theorem iR {i:Nat} {d:cu} (h:f.dirs[i]? = some d):f.D i=d:=by
 unfold FS.D
 rw [getD_eq_getElem?_getD,h]
 rfl
theorem qf {i:Nat} {x:cV} (h:f.files[i]? = some x):f.X i=x:=by
 unfold FS.X
 rw [getD_eq_getElem?_getD,h]
 rfl
theorem db {dir:ByteArray} {ss:List ByteArray} {i:Nat} (h:f.ready dir ss=.ok i):f.off=false∧right dir=true∧(∀ s∈ss,right s=true)∧f.at dir=some i∧∃ d,f.dirs[i]? = some d∧d.name=dir:=by
 unfold FS.ready FS.named at h
 split at h
 · cases h
 · rename_i ho;split at h
   · rename_i hr;rw [ay,List.all_eq_true] at hr
     cases ha:f.at dir with
     | none=>rw [ha] at h; cases h
     | some j=>
       rw [ha] at h;cases h;exact ⟨by simpa using ho,hr.1,hr.2,rfl,oe ha⟩
   · cases h
theorem s7 {dir:ByteArray} {ss:List ByteArray} (h:f.ready dir ss=.error 61):right dir=true∧f.at dir=none:=by
 unfold FS.ready FS.named at h
 split at h
 · cases h
 · split at h
   · rename_i hr;rw [ay] at hr
     cases ha:f.at dir with
     | none=>exact ⟨hr.1,rfl⟩
     | some j=>rw [ha] at h; cases h
   · cases h
theorem kq {dir name:ByteArray} {i x:Nat} (h:f.entry dir name=.ok (i,x)):f.ready dir [name]=.ok i∧of (f.D i).now name=some x:=by
 unfold FS.entry at h
 cases hr:f.ready dir [name] with
 | error e=>rw [hr] at h; cases h
 | ok j=>
   rw [hr] at h
   cases ho:of (f.D j).now name with
   | none=>simp only [ho] at h; cases h
   | some y=>
     simp only [ho] at h;cases h;exact ⟨rfl,ho⟩
theorem FS.WF.mkdir (h:f.WF) (dir:ByteArray):(f.mkdir dir).1.WF:=by
 unfold FS.mkdir
 split
 · exact h
 · rename_i e he;split
   · rename_i he2;subst he2;split
     · exact h
     · rename_i hl;obtain ⟨hr,ha⟩:=s7 he;refine h.step ?_;have hp:=gV ⟨dir,[],[],[]⟩ f.dirs;show FS.WF { f.stepOn with dirs:=cJ ⟨dir,[],[],[]⟩ f.dirs };refine ⟨h.room,qS h.up (og ha),fun e he=>?_,?_,h.files,?_,h.stepOn.fuse⟩
       · rcases aA.1 (hp.mem_iff.1 he) with rfl | he
         · refine ⟨hr,rfl,?_,aw _⟩;show Ok _ [];exact ⟨List.Pairwise.nil,by simp,List.nodup_nil,by simp⟩
         · exact h.stepOn.each e he
       · show List.Pairwise _ (cJ _ f.dirs);rw [hp.pairwise_iff (fun {x y} hxy z hz hz2=>hxy z hz2 hz)];exact List.pairwise_cons.2 ⟨fun e he x hx=>by simp [cu.speaks] at hx,h.apart⟩
       · show (cJ _ f.dirs).length≤64;rw [hp.length_eq,ar];omega
   · exact h
theorem nI (h:f.WF) {name:ByteArray} {i:Nat} {d:cu} (hd:f.dirs[i]? = some d) (hr:right name=true) (hl:d.now.length<4096):Fits (f.files.length+1) d.now (.create name f.files.length):=by
 have w:=h.each d (aj hd)
 refine ⟨hr,by omega,?_,hl⟩
 intro hx
 have:=jo w (fS w hx)
 omega
theorem rf (h:f.WF) {name:ByteArray} {i:Nat} {d:cu} (hd:f.dirs[i]? = some d) (hr:right name=true) (hl:d.now.length<4096):(FS.did { f.stepOn with files:=f.files++[⟨[],0⟩] } i (.create name f.files.length)).WF:=by
 have w:=h.each d (aj hd)
 refine h.stepOn.newFile.did (d:=d) hd ?_ ?_ ?_
 · show Fits (f.files++[(⟨[],0⟩:cV)]).length d.now (.create name f.files.length);rw [ao];exact nI h hd hr hl
 · intro x hx e he hx2;simp only [dO,mem_singleton] at hx;have:=jo (h.each e he) hx2;omega
 · have:=w.pend;show d.pend.length<f.steps+1;omega
theorem FS.WF.create (h:f.WF) (dir name:ByteArray):(f.create dir name).1.WF:=by
 unfold FS.create
 split
 · exact h
 · rename_i i hi;obtain ⟨_,_,hr,_,d,hd,_⟩:=db hi;rw [iR hd];split
   · exact h
   · split
     · exact h
     · rename_i h1 h2;exact h.step (rf h hd (hr name (by simp)) (by omega))
theorem FS.WF.append (h:f.WF) (dir name:ByteArray) {b:List Nat} (hb:B8 b):(f.append dir name b).1.WF:=by
 unfold FS.append
 split
 · exact h
 · rename_i i x hx;split
   · exact h
   · split
     · exact h
     · rename_i h1 h2;refine h.step (h.stepOn.setFile fun y hy=>?_);have hy2:f.files[x]? = some y:=hy;rw [qf hy2] at h1;have w:=h.files y (aj hy2);refine ⟨by simp only [ao]; omega,by simp only [ao]; omega,fun n hn=>?_⟩
       rcases List.mem_append.1 hn with hn | hn
       · exact w.2.2 n hn
       · exact hb n hn
theorem FS.WF.sync (h:f.WF) (dir name:ByteArray):(f.sync dir name).1.WF:=by
 unfold FS.sync
 split
 · exact h
 · exact h.step (h.stepOn.setFile fun y hy=>⟨ax _,(h.files y (aj hy)).2⟩)
theorem FS.WF.syncDir (h:f.WF) (dir:ByteArray):(f.syncDir dir).1.WF:=by
 unfold FS.syncDir
 split
 · exact h
 · exact h.step h.stepOn.settle
theorem nk {n:Nat} {l:bG} {a b:ByteArray} (ha:right a=true) (hb:right b=true) (ho:of l a≠none):Fits n l (.rename a b):=by
 refine ⟨ha,hb,?_⟩
 cases h:of l a with
 | none=>exact absurd h ho
 | some x=>rfl
theorem qv (h:f.WF) {a b:ByteArray} {i:Nat} {d:cu} (hd:f.dirs[i]? = some d) (ha:right a=true) (hb:right b=true) (ho:of d.now a≠none):(f.stepOn.did i (.rename a b)).WF:=by
 have w:=h.each d (aj hd)
 refine h.stepOn.did hd (nk ha hb ho) (fun x hx=>by simp [dO] at hx) ?_
 have:=w.pend
 show d.pend.length<f.steps+1
 omega
theorem FS.WF.rename (h:f.WF) (dir a b:ByteArray):(f.rename dir a b).1.WF:=by
 unfold FS.rename
 split
 · exact h
 · rename_i i hi;obtain ⟨_,_,hr,_,d,hd,_⟩:=db hi;rw [iR hd];split
   · exact h
   · rename_i hs;exact h.step (qv h hd (hr a (by simp)) (hr b (by simp)) fun e=>hs (by rw [e]; rfl))
theorem qw (h:f.WF) {a:ByteArray} {i:Nat} {d:cu} (hd:f.dirs[i]? = some d) (ha:right a=true):(f.stepOn.did i (.remove a)).WF:=by
 have w:=h.each d (aj hd)
 refine h.stepOn.did hd ha (fun x hx=>by simp [dO] at hx) ?_
 have:=w.pend
 show d.pend.length<f.steps+1
 omega
theorem FS.WF.remove (h:f.WF) (dir a:ByteArray):(f.remove dir a).1.WF:=by
 unfold FS.remove
 split
 · exact h
 · rename_i i x hx;obtain ⟨hi,_⟩:=kq hx;obtain ⟨_,_,hr,_,d,hd,_⟩:=db hi;exact h.step (qw h hd (hr a (by simp)))
theorem FS.WF.setFuse (h:f.WF) {n:Int} (hn:n≤9223372036854775807):(f.setFuse n).1.WF:=by
 unfold FS.setFuse
 split
 · exact h
 · refine ⟨h.room,h.up,h.each,h.apart,h.files,h.few,fun k hk=>?_⟩;simp only [Option.some.injEq] at hk;omega
theorem FS.WF.setRoom (h:f.WF) (n:Int):(f.setRoom n).1.WF:=by
 unfold FS.setRoom
 split
 · exact h
 · exact ⟨by show n.toNat≤_; omega,h.up,h.each,h.apart,h.files,h.few,h.fuse⟩
theorem gn {n s:Nat}:∀ {ds:List cu} {l:List Int},(∀ d∈ds,d.WF n s)→∀ e∈(bW ds l).1,∃ d∈ds,e.name=d.name∧e.WF n s∧∀ x∈e.speaks,x∈d.speaks
 | [],l,h,e,he=>by simp [bW] at he
 | d::ds,l,h,e,he=>by
   unfold bW at he
   rcases aA.1 he with rfl | he
   · have w:=h d (by simp);refine ⟨d,by simp,rfl,⟨w.name,rfl,(w.runs.take _).last,aw _⟩,fun x hx=>?_⟩;have hx2:x∈(gC d.base (d.pend.take (pick l d.pend.length).1)).map (·.2):=by simpa [cu.speaks] using hx
     have:=lE (w.runs.take _) hx2
     rcases List.mem_append.1 this with h1 | h1
     · exact List.mem_append.2 (.inl h1)
     · refine List.mem_append.2 (.inr ?_);obtain ⟨o,ho,hxo⟩:=List.mem_flatMap.1 h1;exact List.mem_flatMap.2 ⟨o,mem_of_mem_take ho,hxo⟩
   · obtain ⟨d',hd',h1⟩:=gn (fun d hd=>h d (aD _ hd)) e he;exact ⟨d',aD _ hd',h1⟩
theorem iL {n s:Nat} {R:cu→cu→Prop} (hR:∀ d e d' e':cu,R d e→d'.name=d.name→e'.name=e.name→(∀ x∈d'.speaks,x∈d.speaks)→(∀ x∈e'.speaks,x∈e.speaks)→R d' e') :
  ∀ {ds:List cu} {l:List Int},(∀ d∈ds,d.WF n s)→ds.Pairwise R→(bW ds l).1.Pairwise R
 | [],l,h,hp=>List.Pairwise.nil
 | d::ds,l,h,hp=>by
   have h2:=List.pairwise_cons.1 hp;unfold bW;refine List.pairwise_cons.2 ⟨fun e he=>?_,iL hR (fun d hd=>h d (aD _ hd)) h2.2⟩;obtain ⟨d',hd',h1,h3,h4⟩:=gn (n:=n) (s:=s) (fun d hd=>h d (aD _ hd)) e he;obtain ⟨d0,hd0,h5,h6,h7⟩:=gn (n:=n) (s:=s) (ds:=[d]) (l:=l) (fun e he=>by simp at he; subst he; exact h _ (by simp)) ⟨d.name,gC d.base (d.pend.take (pick l d.pend.length).1),gC d.base (d.pend.take (pick l d.pend.length).1),[]⟩ (by simp [bW]);simp only [mem_singleton] at hd0;subst hd0;exact hR _ _ _ _ (h2.1 d' hd') rfl h1 h7 h4
theorem cU:∀ (ds:List cu) (l:List Int),(bW ds l).1.length=ds.length
 | [],l=>rfl
 | d::ds,l=>by unfold bW; simp [cU ds]
theorem l7 (l:List Int) (n:Nat):(pick l n).1≤n:=by
 unfold pick
 split
 · exact aw _
 · exact Nat.le_of_lt_succ (Nat.mod_lt _ (Nat.succ_pos _))
theorem ff:∀ (xs:List Nat) (fs:List cV) (l:List Int),(cr xs fs l).1.length=fs.length
 | [],fs,l=>rfl
 | x::xs,fs,l=>by unfold cr; simp [ff xs]
def ky (x:cV):Prop:=x.safe≤x.b.length∧x.b.length≤16777216∧B8 x.b
theorem DN {y:cV} (h:ky y) {k:Nat} (hk:k≤y.b.length - y.safe):ky ⟨y.b.take (y.safe+k),y.safe+k⟩:=by
 obtain ⟨h1,h2,h3⟩:=h
 exact ⟨by show y.safe+k≤(y.b.take _).length; rw [au]; omega,by show (y.b.take _).length≤_; rw [au]; omega,fun n hn=>h3 n (mem_of_mem_take hn)⟩
theorem vM {fs:List cV} (h:∀ x∈fs,ky x) (i:Nat):ky (fs.getD i default):=by
 rw [getD_eq_getElem?_getD]
 cases hi:fs[i]? with
 | none=>exact ⟨aw _,by show (0:Nat)≤_; omega,fun n hn=>by cases hn⟩
 | some x=>exact h x (aj hi)
theorem jg:∀ {xs:List Nat} {fs:List cV} {l:List Int},(∀ x∈fs,ky x)→∀ x∈(cr xs fs l).1,ky x
 | [],fs,l,h=>h
 | x::xs,fs,l,h=>by
   unfold cr;refine jg fun z hz=>?_
   rcases List.mem_or_eq_of_mem_set hz with hz | rfl
   · exact h z hz
   · exact DN (vM h x) (l7 _ _)
theorem FS.WF.crash (h:f.WF) (l:List Int):(f.crash l).WF:=by
 refine ⟨h.room,iL (n:=f.files.length) (s:=f.steps) (fun d e d' e' hde h1 h2 _ _=>by rw [h1,h2]; exact hde) h.each h.up,fun e he=>?_,iL (n:=f.files.length) (s:=f.steps) (fun d e d' e' hde _ _ h3 h4 x hx hx2=>hde x (h3 x hx) (h4 x hx2)) h.each h.apart,fun x hx=>jg h.files x hx,?_,fun n hn=>by cases hn⟩
 · show e.WF (cr _ _ _).1.length f.steps;rw [ff];obtain ⟨d,_,_,hw,_⟩:=gn h.each e he;exact hw
 · show (bW _ _).1.length≤64;rw [cU];exact h.few
theorem FS.WF.idx_nodup (h:f.WF):f.idx.Nodup:=by
 unfold FS.idx List.Nodup
 rw [List.pairwise_flatMap]
 refine ⟨fun d hd=>(h.each d hd).ok.once,h.apart.imp_of_mem fun {d e} hd he hde x hx y hy hxy=>?_⟩
 subst hxy
 exact hde x (fS (h.each d hd) hx) (fS (h.each e he) hy)
theorem FS.WF.idx_lt (h:f.WF) {x:Nat} (hx:x∈f.idx):x<f.files.length:=by
 obtain ⟨d,hd,hx⟩:=List.mem_flatMap.1 hx
 obtain ⟨p,hp,e⟩:=List.mem_map.1 hx
 rw [← e]
 exact ((h.each d hd).ok.each p hp).1
theorem yd {l:List Nat} {k:Nat} (h:∀ x∈l,x≤k):l.sum≤l.length*k:=by
 induction l with
 | nil=>simp
 | cons a l ih=>
   have:=ih fun x hx=>h x (aD _ hx);have h1:=h a (by simp);rw [sum_cons,ar,Nat.succ_mul];omega
theorem FS.WF.X_ok (h:f.WF) (x:Nat):ky (f.X x):=vM h.files x
theorem FS.WF.used_le (h:f.WF):f.used≤4398046511104:=by
 have h1:f.used≤f.idx.length*16777216:=by
  unfold FS.used;have:=yd (l:=f.idx.map fun x=>(f.X x).b.length) (k:=16777216) fun y hy=>by
   obtain ⟨x,_,rfl⟩:=List.mem_map.1 hy;exact (h.X_ok x).2.1
  rwa [aq] at this
 have h2:f.idx.length≤262144:=by
  unfold FS.idx;rw [List.length_flatMap];have:=yd (l:=f.dirs.map fun d=>(d.now.map (·.2)).length) (k:=4096) fun y hy=>by
   obtain ⟨d,hd,rfl⟩:=List.mem_map.1 hy;rw [aq];exact (h.each d hd).ok.few
  rw [aq] at this;have:=h.few;omega
 omega
theorem sP {g g':Nat→Nat} {x k:Nat}:∀ {l:List Nat},l.Nodup→x∈l→g' x=g x+k→(∀ y,y≠x→g' y=g y)→(l.map g').sum=(l.map g).sum+k
 | [],_,hx,_,_=>by cases hx
 | a::l,hn,hx,h1,h2=>by
   have hn2:=List.nodup_cons.1 hn;simp only [map_cons,sum_cons]
   rcases aA.1 hx with rfl | hx
   · have:l.map g'=l.map g:=map_congr_left fun y hy=>h2 y fun e=>hn2.1 (by rw [← e]; exact hy);rw [this,h1];omega
   · rw [sP hn2.2 hx h1 h2,h2 a fun e=>hn2.1 (by rw [e]; exact hx)];omega
theorem kW {g:cV→cV} (x y:Nat):(f.setFile x g).X y=if x=y∧y<f.files.length then g (f.X y) else f.X y:=by
 unfold FS.X FS.setFile
 simp only [getD_eq_getElem?_getD,gH]
 by_cases h:x=y
 · subst h
   cases hx:f.files[x]? with
   | none=>
     have:¬ x<f.files.length:=by rw [getElem?_eq_none_iff] at hx; omega
     simp [this]
   | some z=>
     have:x<f.files.length:=(ak.1 hx).1;simp [this]
 · simp [h]
theorem FS.WF.used_append (h:f.WF) {x:Nat} (hx:x∈f.idx) (b:List Nat):(f.setFile x fun y=>{ y with b:=y.b++b }).used=f.used+b.length:=by
 unfold FS.used
 have hl:=h.idx_lt hx
 refine sP (x:=x) h.idx_nodup hx ?_ fun y hy=>?_
 · rw [kW,an ⟨rfl,hl⟩,ao]
 · rw [kW,am fun e=>hy e.1.symm]
theorem wV {dir name:ByteArray} {i x:Nat} (h:f.entry dir name=.ok (i,x)):x∈f.idx:=by
 obtain ⟨h1,h2⟩:=kq h
 obtain ⟨_,_,_,_,d,hd,_⟩:=db h1
 rw [iR hd] at h2
 exact List.mem_flatMap.2 ⟨d,aj hd,List.mem_map.2 ⟨_,jc h2,rfl⟩⟩
end AF
namespace AF
set_option linter.unusedVariables false
end AF
end Go.Proofs.YtdpaiiibndnanaaGreatDoor
