/- File systems that are on and have no fuse: what the calls do to the names and contents of a directory. -/
import Derived.Test.YtmemjbiijclbdaaGreatMpPlA
namespace Go.Proofs.YtmemjbiijclbdaaGreat
open List (map_append)
open Go
set_option linter.unusedVariables false
set_option linter.unusedSimpArgs false
namespace AF
open Frame (dk de)
abbrev Jh:=List (ByteArray×List Nat)
end AF
open Go Go.RowKit
namespace AF
open Frame (dk de eW iz)
namespace Fnm
open Hex (cU iD)
def nm (c:Nat) (n:Nat):ByteArray:=bT [c,46]++bT (cU 16 n)
theorem GN (a b:ByteArray):sb (a++b)=sb a++sb b:=by
 unfold sb nb
 rw [ByteArray.data_append,Array.toList_append,map_append]
theorem JM {c:Nat} (hc:c<256) (n:Nat):sb (nm c n)=c::46::cU 16 n:=by
 unfold nm
 rw [GN,bM (fun x hx=>by simp at hx; omega),bM (Hex.jO 16 n)]
 rfl
theorem Ei (c n:Nat):(nm c n).size=18:=by
 unfold nm
 rw [ByteArray.size_append]
 have:(bT (cU 16 n)).size=16:=by
  rw [← bd,bM (Hex.jO 16 n),Hex.gg]
 rw [this]
 rfl
theorem JO {c a b:Nat} (hc:c<256) (ha:a<18446744073709551616) (hb:b<18446744073709551616):jn (nm c a) (nm c b)=decide (a<b):=by
 rw [← Hex.Ha ha hb,nJ]
 unfold jn nm
 have e:∀ x:ByteArray,(bT [c,46]++x).data.toList=UInt8.ofNat c::UInt8.ofNat 46::x.data.toList:=by
  intro x;rw [ByteArray.data_append,Array.toList_append]
  rfl
 rw [e,e]
 have:(UInt8.ofNat c::UInt8.ofNat 46::(bT (cU 16 a)).data.toList<UInt8.ofNat c::UInt8.ofNat 46::(bT (cU 16 b)).data.toList)↔((bT (cU 16 a)).data.toList<(bT (cU 16 b)).data.toList):=by
  simp only [List.cons_lt_cons_self]
 by_cases h:(bT (cU 16 a)).data.toList<(bT (cU 16 b)).data.toList
 · rw [af h,af (this.2 h)]
 · rw [ae h,ae (fun hh=>h (this.1 hh))]
end Fnm
end AF
end Go.Proofs.YtmemjbiijclbdaaGreat
