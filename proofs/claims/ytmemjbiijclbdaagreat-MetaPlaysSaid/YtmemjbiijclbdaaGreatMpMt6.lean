/- A log that is opened anew has what it had (plain). -/
import Derived.Test.YtmemjbiijclbdaaGreatMpMcX
import Derived.Test.YtmemjbiijclbdaaGreatMpPh1
namespace Go.Proofs.YtmemjbiijclbdaaGreat
open List (mem_cons_self)
open Go Go.RowKit
set_option linter.unusedVariables false
set_option linter.unusedSimpArgs false
namespace AF
open Frame (dk)
open Hex (cU)
def dz (s:ByteArray):Option (Nat×Int):=
 if s.size=18∧(sb s)[1]? = some 46∧((sb s)[0]? = some 98∨(sb s)[0]? = some 102) then (Hex.cO ((sb s).drop 2)).map (fun n:Nat=>((sb s).getD 0 0,(n:Int))) else none
def ey (r:fe×List (Int×Unit)) (s:ByteArray):fe×List (Int×Unit):=
 match dz s with
 | some (c,n)=>if c=98 then (bR n [] r.1,r.2) else (r.1,bR n () r.2)
 | none=>r
def be (l:List ByteArray):fe×List (Int×Unit):=l.foldl ey ([],[])
def ed (A:FS) (dir:ByteArray):List Int→fe→Except Nat fe
 | [],T=>.ok T
 | n::l,T=>match A.get dir (cu 98 n) with
   | .error e=>.error e
   | .ok b=>ed A dir l (bR n b T)
theorem nL:∀ (l:List ByteArray) (r:fe×List (Int×Unit)),gQ r.1→gQ r.2→(∀ p∈r.1,p.2=[])→
  gQ (l.foldl ey r).1∧gQ (l.foldl ey r).2∧(∀ p∈(l.foldl ey r).1,p.2=[])∧(∀ n,n∈(l.foldl ey r).1.map (·.1)↔n∈r.1.map (·.1)∨∃ s∈l,dz s=some (98,n))∧
   (∀ n,n∈(l.foldl ey r).2.map (·.1)↔n∈r.2.map (·.1)∨∃ s∈l,∃ c,c≠98∧dz s=some (c,n))
 | [],r,h1,h2,h3=>⟨h1,h2,h3,fun n=>by simp,fun n=>by simp⟩
 | s::l,r,h1,h2,h3=>by
   rw [List.foldl_cons]
   cases hk:dz s with
   | none=>
     have eK:ey r s=r:=by unfold ey; rw [hk]
     rw [eK];obtain ⟨a1,a2,a3,a4,a5⟩:=nL l r h1 h2 h3;refine ⟨a1,a2,a3,fun n=>?_,fun n=>?_⟩
     · rw [a4];simp [hk]
     · rw [a5];simp [hk]
   | some q=>
     obtain ⟨c,m⟩:=q;by_cases hc:c=98
     · subst hc;have eK:ey r s=(bR m [] r.1,r.2):=by unfold ey; rw [hk]; exact al rfl
       rw [eK];obtain ⟨a1,a2,a3,a4,a5⟩:=nL l (bR m [] r.1,r.2) (il h1) h2 fun p hp=>by
        rcases (cY h1).1 hp with rfl | ⟨_,hp⟩
        · rfl
        · exact h3 p hp
       refine ⟨a1,a2,a3,fun n=>?_,fun n=>?_⟩
       · refine (a4 n).trans ?_;constructor
         · rintro (h | ⟨t,ht,e⟩)
           · obtain ⟨p,hp,rfl⟩:=List.mem_map.1 h
             rcases (cY h1).1 hp with rfl | ⟨_,hp⟩
             · exact .inr ⟨s,mem_cons_self ..,hk⟩
             · exact .inl (List.mem_map.2 ⟨p,hp,rfl⟩)
           · exact .inr ⟨t,aB _ ht,e⟩
         · rintro (h | ⟨t,ht,e⟩)
           · obtain ⟨p,hp,rfl⟩:=List.mem_map.1 h;by_cases e:p.1=m
             · exact .inl (List.mem_map.2 ⟨_,(cY h1).2 (.inl rfl),e.symm⟩)
             · exact .inl (List.mem_map.2 ⟨p,(cY h1).2 (.inr ⟨e,hp⟩),rfl⟩)
           · rcases ay.1 ht with rfl | ht
             · rw [hk] at e;cases e;exact .inl (List.mem_map.2 ⟨_,(cY h1).2 (.inl rfl),rfl⟩)
             · exact .inr ⟨t,ht,e⟩
       · refine (a5 n).trans ?_;constructor
         · rintro (h | ⟨t,ht,e⟩)
           · exact .inl h
           · exact .inr ⟨t,aB _ ht,e⟩
         · rintro (h | ⟨t,ht,c,hc,e⟩)
           · exact .inl h
           · rcases ay.1 ht with rfl | ht
             · rw [hk] at e;cases e;exact absurd rfl hc
             · exact .inr ⟨t,ht,c,hc,e⟩
     · have eK:ey r s=(r.1,bR m () r.2):=by unfold ey; rw [hk]; exact ak hc
       rw [eK];obtain ⟨a1,a2,a3,a4,a5⟩:=nL l (r.1,bR m () r.2) h1 (il h2) h3;refine ⟨a1,a2,a3,fun n=>?_,fun n=>?_⟩
       · refine (a4 n).trans ?_;constructor
         · rintro (h | ⟨t,ht,e⟩)
           · exact .inl h
           · exact .inr ⟨t,aB _ ht,e⟩
         · rintro (h | ⟨t,ht,e⟩)
           · exact .inl h
           · rcases ay.1 ht with rfl | ht
             · rw [hk] at e;cases e;exact absurd rfl hc
             · exact .inr ⟨t,ht,e⟩
       · refine (a5 n).trans ?_;constructor
         · rintro (h | ⟨t,ht,e⟩)
           · obtain ⟨p,hp,rfl⟩:=List.mem_map.1 h
             rcases (cY h2).1 hp with rfl | ⟨_,hp⟩
             · exact .inr ⟨s,mem_cons_self ..,c,hc,hk⟩
             · exact .inl (List.mem_map.2 ⟨p,hp,rfl⟩)
           · exact .inr ⟨t,aB _ ht,e⟩
         · rintro (h | ⟨t,ht,d,hd,e⟩)
           · obtain ⟨p,hp,rfl⟩:=List.mem_map.1 h;by_cases e:p.1=m
             · exact .inl (List.mem_map.2 ⟨_,(cY h2).2 (.inl rfl),e.symm⟩)
             · exact .inl (List.mem_map.2 ⟨p,(cY h2).2 (.inr ⟨e,hp⟩),rfl⟩)
           · rcases ay.1 ht with rfl | ht
             · rw [hk] at e;cases e;exact .inl (List.mem_map.2 ⟨_,(cY h2).2 (.inl rfl),rfl⟩)
             · exact .inr ⟨t,ht,d,hd,e⟩
end AF
end Go.Proofs.YtmemjbiijclbdaaGreat
