/- Opening a log,where nothing goes wrong. -/
import Derived.Test.YtmemjbiijclbdaaGreatMpMcX
import Derived.Test.YtmemjbiijclbdaaGreatMpMt6
namespace Go.Proofs.YtmemjbiijclbdaaGreat
open Go.Proofs.Tryz (prog)
open List (foldl_append getD_eq_getElem?_getD length_drop length_nil cons_append)
open Go Go.RowKit Go.MapKept
set_option linter.unusedVariables false
set_option linter.unusedSimpArgs false
open AF (bA dq bm cu fe dz ey be ed)
open Hex (cU)
def BM (b0 b1 b2 b3 b8:Nat) (h_30:Heap) (Q:Value→Heap→Prop):Prop:=
 Ld h_30 (Addr.mk b8 0 none) fun v24=>DP v24 fun x27=>
  aS x27 fun a5=>
  Ld h_30 (a5.add 2) fun v25=>DM v25 fun x28=>
  aC prog 37 [.map x28] h_30 fun r26 h_35=>
  ∃ (x29:Value),r26=x29∧
  dL prog x29 2 none h_35 (fun l_0 rec_0 args0 h_36 Q_0=>
   ∃ (y0:Int),∃ (y1a:Option Addr),∃ (y1l:Nat),∃ (y1c:Nat),args0=[.int .i64 y0,.slice y1a y1l y1c]∧
   h_36[l_0]? = some (rec_0 .ready none)∧
   Ld (h_36.setIfInBounds l_0 (rec_0 .busy none)) (Addr.mk b0 0 none) fun v26=>DP v26 fun x30=>
   Ld (h_36.setIfInBounds l_0 (rec_0 .busy none)) (Addr.mk b1 0 none) fun v27=>DS v27 fun x31=>
   aC prog 35 [.int .i64 y0] (h_36.setIfInBounds l_0 (rec_0 .busy none)) fun r27 h_37=>
   DS r27 fun x32=>
   (Ld h_37 (Addr.mk b0 0 none) fun v28=>DP v28 fun x33=>
   aG (some (.pointer x30)) (.pointer x33))∧
   (Ld h_37 (Addr.mk b1 0 none) fun v29=>DS v29 fun x34=>
   aG (some (.string x31)) (.string x34))∧
   (⟨#[98,46]⟩:ByteArray).size+(x32:ByteArray).size≤9223372036854775807∧
   aC prog 34 [.pointer x30,.string x31,.string (⟨#[98,46]⟩++x32)] h_37 fun r28 h_38=>
   ∃ (x35a:Option Addr),∃ (x35l:Nat),∃ (x35c:Nat),∃ (x36:Int),r28=.tuple #[.slice x35a x35l x35c,.int .i64 x36]∧
   (bif (x36:Int)!=0 then
    bz h_38 ((Addr.mk b2 0 none).add 0) (.pointer none) fun h_40=>
    bz h_40 ((Addr.mk b3 0 none).add 0) (.int .i64 x36) fun h_42=>
    h_42[l_0]? = some (rec_0 .busy none)∧Q_0 (.bool false) (h_42.setIfInBounds l_0 (rec_0 .done (some .ret)))
   else
    Ld h_38 (Addr.mk b8 0 none) fun v30=>DP v30 fun x37=>
    aS x37 fun a6=>
    Ld h_38 (a6.add 2) fun v31=>DM v31 fun x38=>
    fW prog (Instr.mapUpdate 78 (.map x38) (.int .i64 y0) (.slice x35a x35l x35c)) h_38 fun h_43=>
    h_43[l_0]? = some (rec_0 .busy none)∧Q_0 (.bool true) (h_43.setIfInBounds l_0 (rec_0 .ready none)))) (fun pend0 h_44=>
   (pend0=none∨pend0=some (.ret))∧
   (pend0=none→
    Ld h_44 (Addr.mk b8 0 none) fun v32=>DP v32 fun x39=>
    bz h_44 ((Addr.mk b2 0 none).add 0) (.pointer x39) fun h_46=>
    bz h_46 ((Addr.mk b3 0 none).add 0) (.int .i64 0) fun h_48=>
    h_48[h_35.size]? = some (.deferred (some []))∧
    Ld (h_48.setIfInBounds h_35.size (.deferred none)) (Addr.mk b2 0 none) fun v33=>DP v33 fun res6=>
    Ld (h_48.setIfInBounds h_35.size (.deferred none)) (Addr.mk b3 0 none) fun v34=>DI .i64 v34 fun res7=>
    Q (.tuple #[.pointer res6,.int .i64 res7]) (h_48.setIfInBounds h_35.size (.deferred none)))∧
   (pend0=some (.ret)→
    h_44[h_35.size]? = some (.deferred (some []))∧
    Ld (h_44.setIfInBounds h_35.size (.deferred none)) (Addr.mk b2 0 none) fun v35=>DP v35 fun res8=>
    Ld (h_44.setIfInBounds h_35.size (.deferred none)) (Addr.mk b3 0 none) fun v36=>DI .i64 v36 fun res9=>
    Q (.tuple #[.pointer res8,.int .i64 res9]) (h_44.setIfInBounds h_35.size (.deferred none))))
namespace AF
theorem kO (A:FS) (dir:ByteArray) (n:Int) (l:List Int) (T:fe):ed A dir (n::l) T=match A.get dir (cu 98 n) with
  | .error e=>.error e
  | .ok b=>ed A dir l (bR n b T):=by
 conv=>lhs; unfold ed
 cases A.get dir (cu 98 n) <;> rfl
theorem m9 (A:FS) (dir:ByteArray):∀ (l m:List Int) (T:fe),ed A dir (l++m) T=match ed A dir l T with
  | .ok U=>ed A dir m U
  | .error e=>.error e
 | [],m,T=>rfl
 | n::l,m,T=>by
   rw [cons_append,kO,kO]
   cases A.get dir (cu 98 n) with
   | error e=>rfl
   | ok b=>
     simp only [];rw [m9 A dir l m]
end AF
section
variable {F:List aE} {h:Heap} {b fsb:Nat} {M:bA} {A:AF.FS}
theorem C2 {s:ByteArray} (H:aD F h):aC prog 32 [.string s] h fun v h'=>aD F h'∧((∃ (c:Nat) (n:Int),dz s=some (c,n)∧v=.tuple #[.int .u8 (c:Int),.int .i64 n,.bool true])∨(dz s=none∧∃ x y:Int,v=.tuple #[.int .u8 x,.int .i64 y,.bool false])):=by
 apply IC.ap
 unfold Nb
 by_cases hs:s.size=18
 · rw [show (((s.size:Nat):Int)!=18)=false from by rw [hs]; rfl,aa];have hl:(sb s).length=18:=by rw [bd,hs]
   obtain ⟨x0,hx0⟩:∃ x,(sb s)[0]? = some x:=⟨_,ah (by omega)⟩
   obtain ⟨x1,hx1⟩:∃ x,(sb s)[1]? = some x:=⟨_,ah (by omega)⟩
   have b0:bt s 0=(x0:Int):=iG hx0;have b1:bt s 1=(x1:Int):=iG hx1;refine ⟨by decide,by omega,?_⟩;rw [b1];by_cases h1:x1=46
   · subst h1;rw [show ((((46:Nat):Int))!=46)=false from rfl,aa];refine ⟨by decide,by omega,?_⟩;rw [b0];have tail:∀ c:Nat,x0=c→(c=98∨c=102)→Ac s 2 ((s:ByteArray).size:Int) fun s0=>aC prog 95 [.string s0] h fun r0 h_0=>∃ (y0:Int),∃ (y1:Bool),r0=.tuple #[.int .i64 y0,.bool y1]∧0≤(0:Int)∧(0:Int)<((s:ByteArray).size:Int)∧
      (aD F h_0∧((∃ (c:Nat) (n:Int),dz s=some (c,n)∧(Value.tuple #[.int .u8 (x0:Int),.int .i64 y0,.bool y1])=.tuple #[.int .u8 (c:Int),.int .i64 n,.bool true])∨(dz s=none∧∃ x y:Int,(Value.tuple #[.int .u8 (x0:Int),.int .i64 y0,.bool y1])=.tuple #[.int .u8 x,.int .i64 y,.bool false]))):=by
      rintro c rfl hc;refine ⟨by decide,by omega,by omega,?_⟩;have e2:(2:Int).toNat=2:=rfl;have e3:((s.size:Nat):Int).toNat=18:=by omega
      rw [e2,e3];have he:sb (s.extract 2 18)=(sb s).drop 2:=by
       rw [ff,ar (by rw [length_drop]; omega)]
      refine (wE (by rw [← bd,he,length_drop]; omega) H).mono ?_;rintro v h1 ⟨rfl,H1⟩;rw [he];have hk:dz s=(Hex.cO ((sb s).drop 2)).map (fun n:Nat=>(x0,(n:Int))):=by
       unfold AF.dz;rw [al ⟨hs,hx1,by rcases hc with rfl | rfl <;> simp [hx0]⟩];have:(sb s).getD 0 0=x0:=by rw [getD_eq_getElem?_getD,hx0]; rfl
       rw [this]
      refine ⟨_,_,rfl,Int.le_refl _,by omega,H1,?_⟩
      cases hu:Hex.cO ((sb s).drop 2) with
      | none=>exact .inr ⟨by rw [hk,hu]; rfl,_,_,rfl⟩
      | some n=>exact .inl ⟨x0,(n:Int),by rw [hk,hu]; rfl,rfl⟩
     by_cases h98:x0=98
     · rw [h98,show ((((98:Nat):Int))!=98)=false from rfl,aa];have:=tail 98 h98 (.inl rfl);rw [h98] at this;exact this
     · rw [show ((x0:Int)!=98)=true from by rw [bne_iff_ne]; omega,ab];refine ⟨by decide,by omega,?_⟩;by_cases h102:x0=102
       · rw [h102,show ((((102:Nat):Int))!=102)=false from rfl,aa];have:=tail 102 h102 (.inr rfl);rw [h102] at this;exact this
       · rw [show ((x0:Int)!=102)=true from by rw [bne_iff_ne]; omega,ab];refine ⟨H,.inr ⟨?_,_,_,rfl⟩⟩;unfold AF.dz;rw [ak];rintro ⟨_,_,h3 | h3⟩
         · rw [hx0] at h3; cases h3; exact h98 rfl
         · rw [hx0] at h3; cases h3; exact h102 rfl
   · rw [show ((x1:Int)!=46)=true from by rw [bne_iff_ne]; omega,ab];refine ⟨H,.inr ⟨?_,_,_,rfl⟩⟩;unfold AF.dz;rw [ak];rintro ⟨_,h3,_⟩;rw [hx1] at h3;cases h3;exact h1 rfl
 · rw [show (((s.size:Nat):Int)!=18)=true from by rw [bne_iff_ne]; omega,ab];refine ⟨H,.inr ⟨?_,_,_,rfl⟩⟩;unfold AF.dz;rw [ak fun hh=>hs hh.1]
def sI (b0 b1 b2 b3 b8 fsb:Nat) (dir:ByteArray) (A:AF.FS) (F:List aE):List aE:=
 pt b0 (.cells #[aI fsb] 23 (0,0))::pt b1 (.cells #[.string dir] 9 (0,0))::pt b2 (.cells #[.pointer none] 27 (0,0))::pt b3 (.cells #[.int .i64 0] 24 (0,0))::pt b8 (.cells #[aI b] 27 (0,0))::co fsb A::F
end
section
variable {F:List aE} {h:Heap} {fsb:Nat} {A:AF.FS} {dir:ByteArray}
theorem zt {ks:List ByteArray} {i:Nat} {s:ByteArray} (hs:ks[i]? = some s):be (ks.take (i+1))=ey (be (ks.take i)) s:=by
 unfold AF.be
 rw [ax,hs,foldl_append]
 rfl
theorem D5 (ks:List ByteArray):gQ (be ks).1∧gQ (be ks).2∧∀ p∈(be ks).1,p.2=[]:=by
 obtain ⟨a,b,c,_,_⟩:=AF.nL ks ([],[]) List.Pairwise.nil List.Pairwise.nil (by simp)
 exact ⟨a,b,c⟩
theorem Bv {α:Type} (k:Int) (x:α) (T:List (Int×α)):(bR k x T).length≤T.length+1:=(AF.eS k x T).1
theorem BA:∀ (ks:List ByteArray),(be ks).1.length≤ks.length:=by
 intro ks
 have:∀ (l:List ByteArray) (r:fe×List (Int×Unit)),(l.foldl ey r).1.length≤r.1.length+l.length:=by
  intro l
  induction l with
  | nil=>intro r; exact av _
  | cons s l ih=>
    intro r;have h1:=ih (ey r s);have h2:(ey r s).1.length≤r.1.length+1:=by
     unfold AF.ey;split
     · split
       · exact Bv _ _ _
       · exact Nat.le_succ _
     · exact Nat.le_succ _
    rw [List.foldl_cons,ao];omega
 have h3:=this ks ([],[])
 rw [length_nil,Nat.zero_add] at h3
 exact h3
end
open AF (bA dq bm cu fe Jh)
end Go.Proofs.YtmemjbiijclbdaaGreat
