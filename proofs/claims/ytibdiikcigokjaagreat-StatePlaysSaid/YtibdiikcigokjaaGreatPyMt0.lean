/- A log of entries by numbers,plain: what the calls do to the file system and to the log. -/
import Derived.Test.YtibdiikcigokjaaGreatPyPaX
import Derived.Test.YtibdiikcigokjaaGreatPyMt1
namespace Go.Proofs.YtibdiikcigokjaaGreat
open Go Go.RowKit
set_option linter.unusedVariables false
set_option linter.unusedSimpArgs false
def fi (n:Nat):List Nat:=if h:n<128 then [n] else (n%128+128)::fi (n / 128)
termination_by n
decreasing_by exact Nat.div_lt_self (by omega) (by decide)
def cT (s:List Nat):List Nat:=fi s.length++s
def fO (p:List Nat×List Nat):List Nat:=cT p.1++cT p.2
def qB (l:List (List Nat×List Nat)):List Nat:=fi l.length++l.flatMap fO
theorem eQ {n:Nat} (h:n<128):fi n=[n]:=by rw [fi,dif_pos h]
theorem nK {n:Nat} (h:¬ n<128):fi n=(n%128+128)::fi (n / 128):=by rw [fi,dif_neg h]
theorem iT:∀ n:Nat,B8 (fi n):=by
 intro n
 induction n using Nat.strongRecOn with
 | ind n ih=>
   by_cases h:n<128
   · rw [eQ h];intro x hx;simp at hx;omega
   · rw [nK h];intro x hx
     rcases ay.1 hx with rfl | hx
     · omega
     · exact ih _ (Nat.div_lt_self (by omega) (by decide)) x hx
theorem dk:∀ (k n:Nat),n<128^(k+1)→(fi n).length≤k+1
 | 0,n,h=>by rw [eQ (by omega)]; exact av _
 | k+1,n,h=>by
   by_cases h1:n<128
   · rw [eQ h1]; simp
   · rw [nK h1,ao];have:=dk k (n / 128) (by rw [Nat.div_lt_iff_lt_mul (by decide)]; rw [Nat.pow_succ] at h; exact h);omega
theorem yp {a b:List Nat} (ha:B8 a) (hb:B8 b):B8 (a++b):=fun x hx=>(List.mem_append.1 hx).elim (ha x) (hb x)
theorem p9 {s:List Nat} (h:B8 s):B8 (cT s):=yp (iT _) h
theorem zW {l:List (List Nat×List Nat)} (h:∀ p∈l,B8 p.1∧B8 p.2):B8 (qB l):=by
 refine yp (iT _) fun x hx=>?_
 obtain ⟨p,hp,hx⟩:=List.mem_flatMap.1 hx
 exact yp (p9 (h p hp).1) (p9 (h p hp).2) x hx
namespace AF
open Hex (cE)
open Fnm (nm)
abbrev MT:=List (Int×List Nat)
structure AM where
 dir:ByteArray
 S:MT
 Fo:List (Int×Unit)
 D:MT
def cI (c:Nat) (n:Int):ByteArray:=nm c (ff n)
def fY {α:Type} (dir:ByteArray) (c:Nat) (p:Int→Bool):List Int→FS→List (Int×α)→Bool→FS×List (Int×α)×Bool×Nat
 | [],A,T,s=>(A,T,s,0)
 | n::l,A,T,s=>if p n then (if (A.remove dir (cI c n)).2=0 then fY dir c p l (A.remove dir (cI c n)).1 (rG n T) true else ((A.remove dir (cI c n)).1,T,s,(A.remove dir (cI c n)).2)) else fY dir c p l A T s
end AF
end Go.Proofs.YtibdiikcigokjaaGreat
