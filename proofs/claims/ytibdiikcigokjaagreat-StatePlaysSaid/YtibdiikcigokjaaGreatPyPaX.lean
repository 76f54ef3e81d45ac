/- File systems that are on and have no fuse: what the calls do to the names and contents of a directory. -/
import Derived.Test.YtibdiikcigokjaaGreatPyPlA
namespace Go.Proofs.YtibdiikcigokjaaGreat
open List (map_append)
open Go
set_option linter.unusedVariables false
set_option linter.unusedSimpArgs false
namespace AF
open Frame (cH cX)
abbrev ln:=List (ByteArray×List Nat)
end AF
open Go Go.RowKit
namespace AF
open Frame (cH cX dE gh)
namespace Fnm
open Hex (cE gZ)
def nm (c:Nat) (n:Nat):ByteArray:=cn [c,46]++cn (cE 16 n)
theorem Iq (a b:ByteArray):sb (a++b)=sb a++sb b:=by
 unfold sb nb
 rw [ByteArray.data_append,Array.toList_append,map_append]
theorem Cr {c:Nat} (hc:c<256) (n:Nat):sb (nm c n)=c::46::cE 16 n:=by
 unfold nm
 rw [Iq,bR (fun x hx=>by simp at hx; omega),bR (Hex.kN 16 n)]
 rfl
theorem E4 (c n:Nat):(nm c n).size=18:=by
 unfold nm
 rw [ByteArray.size_append]
 have:(cn (cE 16 n)).size=16:=by
  rw [← aW,bR (Hex.kN 16 n),Hex.eL]
 rw [this]
 rfl
theorem CR {a b:Nat} (ha:a<18446744073709551616) (hb:b<18446744073709551616) (h:cE 16 a=cE 16 b):a=b:=by
 have h1:=Hex.p6 16 a b
 have h2:=Hex.p6 16 b a
 rw [h] at h1 h2
 have e1:¬ (((cE 16 b).map UInt8.ofNat)<((cE 16 b).map UInt8.ofNat)):=List.lt_irrefl _
 have p:(16:Nat)^16=18446744073709551616:=by decide
 rw [p,Nat.mod_eq_of_lt ha,Nat.mod_eq_of_lt hb] at h1
 rw [p,Nat.mod_eq_of_lt ha,Nat.mod_eq_of_lt hb] at h2
 have a1:¬ a<b:=fun hh=>e1 (h1.2 hh)
 have a2:¬ b<a:=fun hh=>e1 (h2.2 hh)
 omega
theorem Iw {c d a b:Nat} (hc:c<256) (hd:d<256) (ha:a<18446744073709551616) (hb:b<18446744073709551616) (h:nm c a=nm d b):c=d∧a=b:=by
 have:=congrArg sb h
 rw [Cr hc,Cr hd] at this
 simp only [List.cons.injEq,true_and] at this
 exact ⟨this.1,CR ha hb this.2⟩
theorem KJ {c a b:Nat} (hc:c<256) (ha:a<18446744073709551616) (hb:b<18446744073709551616):dF (nm c a) (nm c b)=decide (a<b):=by
 rw [← Hex.ID ha hb,gK]
 unfold dF nm
 have e:∀ x:ByteArray,(cn [c,46]++x).data.toList=UInt8.ofNat c::UInt8.ofNat 46::x.data.toList:=by
  intro x;rw [ByteArray.data_append,Array.toList_append]
  rfl
 rw [e,e]
 have:(UInt8.ofNat c::UInt8.ofNat 46::(cn (cE 16 a)).data.toList<UInt8.ofNat c::UInt8.ofNat 46::(cn (cE 16 b)).data.toList)↔((cn (cE 16 a)).data.toList<(cn (cE 16 b)).data.toList):=by
  simp only [List.cons_lt_cons_self]
 by_cases h:(cn (cE 16 a)).data.toList<(cn (cE 16 b)).data.toList
 · rw [af h,af (this.2 h)]
 · rw [ae h,ae (fun hh=>h (this.1 hh))]
end Fnm
end AF
end Go.Proofs.YtibdiikcigokjaaGreat
