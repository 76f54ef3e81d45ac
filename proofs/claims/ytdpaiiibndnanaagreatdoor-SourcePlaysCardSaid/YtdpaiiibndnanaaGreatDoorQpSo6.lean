/- A source: ranges looked at,Plan. -/
import Derived.Test.YtdpaiiibndnanaaGreatDoorQpSo5
namespace Go.Proofs.YtdpaiiibndnanaaGreatDoor
open Go.Proofs.Tryz (prog)
open List (getElem?_eq_none zipWith any_eq_true getElem?_zipWith any_eq_false)
open Go Go.RowKit
set_option linter.unusedVariables false
set_option linter.unusedSimpArgs false
open Dl (LP bC cnt bF j4)
open AF (aU cG Gr dD e9 Rg lf cx cH dd planOf j5 dZ)
def HO:Value→Bool
 | .int .i64 0=>true
 | _=>false
theorem Dy {v:Value} (h:HO v=true):v=iv 0:=by
 unfold HO at h
 split at h
 · rfl
 · cases h
def sH (P:Program) (e:TypeId):Bool:=
 match P.info? e with
 | some i=>match i.zero with
   | some z=>z.cells.all HO
   | none=>false
 | none=>false
abbrev dY (n:Nat):List Rg:=List.replicate n (0,0)
theorem uO {P:Program} {t e:TypeId} {n:Nat} {h:Heap} {F:List aF} {K:Value→Heap→Prop} (ht:P.underlying t=some (.slice e)) (hi:gi P e 2 16=true) (hz:sH P e=true) (hn:n≤1000000) (H:aG F h)
  (hK:∀ a h',aG (aQ e 2 a n n ((dY n).flatMap fh)::F) h'→K (.slice a n n) h'):bB P (Instr.makeSlice t (.int .i64 (n:Int)) (.int .i64 (n:Int))) h K:=by
 obtain ⟨i,z,h1,h2,hzs,h3,h4,_,_⟩:=qT hi
 unfold sH at hz
 rw [h1] at hz
 dsimp only at hz
 rw [h2] at hz
 dsimp only at hz
 have ez:∀ (j:Nat),j<2→z.cells[j]! = iv 0:=fun j hj=>by
  rw [Array.all_eq_true] at hz;have hj2:j<z.cells.size:=by omega
  rw [getElem!_pos z.cells j hj2];exact Dy (hz j hj2)
 intro w hw
 subst hw
 have hr:=run_makeSlice (P:=P) w t e i z ht h1 h2 .i64 .i64 (n:Int) (n:Int) (by omega) (Int.le_refl _) (by rw [h3,Int.toNat_natCast]; omega) (by rw [h4]; omega) (by omega)
 rw [Int.toNat_natCast,h3] at hr
 refine ⟨_,_,hr,⟨rfl,rfl,rfl⟩,?_⟩
 refine hK _ _ ?_
 have H2:=H.push (.cells (madeCells z.cells (n*2)) e)
 refine fe H2 (by intro j hj; simp) (ax _) (by unfold maxLen; omega) (by rw [size_madeCells]) ?_
 rw [av (by simp [madeCells])]
 apply List.ext_getElem?
 intro j
 by_cases hj:j<n*2
 · have hx:(dY n)[j / 2]? = some (0,0):=by rw [List.getElem?_replicate,an (by omega)]
   have e1:((dY n).flatMap fh)[j]? = some (iv 0):=by
    have:=jx (f:=fh) (sz:=2) (fun _=>rfl) hx (j:=j%2) (Nat.mod_lt _ (by decide));rw [show j / 2*2+j%2=j by omega] at this;rw [this]
    rcases Nat.mod_two_eq_zero_or_one j with h | h <;> rw [h] <;> rfl
   rw [e1];rw [Array.getElem?_toList];unfold madeCells;rw [Array.getElem?_map,Array.getElem?_range,an hj];show some (z.cells[j%z.cells.size]!)=_;rw [hzs,ez _ (Nat.mod_lt _ (by decide))]
 · rw [getElem?_eq_none (by simp [madeCells]; omega),getElem?_eq_none (by rw [List.length_flatMap]; simp; omega)]
section
variable {s fb:Nat} {ls:List aU} {A:AF.FS} {F:List aF} {h:Heap} {k:Nat}
theorem oE {rs:List Rg} {i:Nat} {x:Rg} (hx:rs[i]? = some x):(rs.take (i+1)).all lf=((rs.take i).all lf&&lf x):=by
 rw [az,hx,List.all_append]
 simp
theorem qt {rs:List Rg} {i:Nat} {x:Rg} (hx:rs[i]? = some x) (h:lf x=false):cx rs=false:=by
 cases hr:cx rs with
 | false=>rfl
 | true=>
   unfold cx at hr;simp only [ay,List.all_eq_true] at hr;rw [hr.2 x (aj hx)] at h;cases h
theorem zr {rs:List Rg} {a:Option Addr} {n c:Nat} (hr:∀ h',aG F h'→cv h' a (rs.flatMap fh)) (hn:rs.length=n) (H:aG F h) :
  aE prog 90 [.slice a n c] h fun v h'=>v=.int .i64 (if cx rs=true then 0 else 80)∧aG F h':=by
 apply D7.ap
 unfold IC
 have short:¬ (1≤n∧n≤4)→cx rs=false:=fun hh=>by
  cases hr:cx rs with
  | false=>rfl
  | true=>
    unfold cx at hr;simp only [ay,decide_eq_true_eq] at hr;omega
 by_cases h1:n<1
 · rw [ah (by omega),ae,short (by omega)];exact ⟨rfl,H⟩
 rw [af (by omega),ab]
 by_cases h4:4<n
 · rw [ah (by omega),ae,short (by omega)];exact ⟨rfl,H⟩
 rw [af (by omega),ab]
 refine ⟨fun st hh=>∃ i:Nat,st=(i:Int)∧i≤n∧(rs.take i).all lf=true∧aG F hh,fun st _=>((n:Int) - st).toNat,⟨0,rfl,aw _,rfl,H⟩,?_⟩
 rintro st h2 ⟨i,rfl,hi,hall,H2⟩
 by_cases hil:i<n
 rotate_left
 · have e:i=n:=by omega
   rw [af (by omega),ab];rw [e,av (by omega)] at hall;have:cx rs=true:=by
    unfold cx;rw [hall,ah (by omega),ah (by omega)]
    rfl
   rw [this];exact ⟨rfl,H2⟩
 rw [ah (show ((i:Int)<(n:Int)) by omega),ae]
 obtain ⟨x,hx⟩:∃ x,rs[i]? = some x:=⟨_,ai (by omega)⟩
 refine dp (f:=fh) (fun _=>rfl) (by decide) (hr h2 H2) hn hx fun _ _ hc=>⟨_,hc 0 _ rfl,_,hc 1 _ rfl,x.1,x.2,rfl,?_⟩
 refine aW H2 fun b h3 H3=>?_
 refine ct (c':=#[iv x.1,iv 0]) H3 (show (0:Nat)<2 by decide) rfl fun h5 H5=>?_
 refine ct (c':=#[iv x.1,iv x.2]) H5 (show (1:Nat)<2 by decide) rfl fun h6 H6=>?_
 refine bM (x:=x.1) H6 rfl ?_
 have bad:lf x=false→Value.int .i64 80=.int .i64 (if cx rs=true then 0 else 80)∧aG F h6:=fun hb=>by
  rw [qt hx hb];exact ⟨rfl,H6.drop⟩
 by_cases b1:x.1<0
 · rw [ah b1,ae];exact bad (by unfold lf; rw [af (show ¬ 0≤x.1 by omega)]; rfl)
 rw [af b1,ab]
 refine bM (x:=x.2) H6 rfl ?_
 refine bM (x:=x.1) H6 rfl ?_
 by_cases b2:x.2<x.1
 · rw [ah b2,ae];exact bad (by unfold lf; rw [af (show ¬ x.1≤x.2 by omega),Bool.and_false]; rfl)
 rw [af b2,ab]
 refine bM (x:=x.2) H6 rfl ?_
 by_cases b3:x.2>1099511627776
 · rw [ah b3,ae];exact bad (by unfold lf; rw [af (show ¬ x.2≤1099511627776 by omega),Bool.and_false])
 rw [af b3,ab]
 have hok:lf x=true:=by unfold lf; rw [ah (by omega),ah (by omega),ah (by omega)]; rfl
 exact ⟨⟨i+1,by rw [IntWalk.i64_in _ (by omega)]; rfl,by omega,by rw [oE hx,hall,hok]; rfl,H6.drop⟩,by rw [IntWalk.i64_in _ (by omega)]; show ((n:Int) - ((i:Int)+1)).toNat<((n:Int) - (i:Int)).toNat; omega⟩
theorem oS {rs:List Rg} {i:Nat} {x:Rg} {L:aU} (hx:rs[i]? = some x) (hL:ls[i]? = some L) (h:(L.dur:Int)<x.2):AF.over ls rs=true:=by
 unfold AF.over
 rw [any_eq_true]
 refine ⟨true,?_,rfl⟩
 have:(zipWith (fun (p:Rg) (L:aU)=>decide ((L.dur:Int)<p.2)) rs ls)[i]? = some true:=by
  rw [getElem?_zipWith,hx,hL];show some (decide ((L.dur:Int)<x.2))=_;rw [ah h]
 exact aj this
theorem vB {rs:List Rg} (hl:rs.length=ls.length) (h:∀ (i:Nat) (x:Rg) (L:aU),rs[i]? = some x→ls[i]? = some L→¬ (L.dur:Int)<x.2):AF.over ls rs=false:=by
 unfold AF.over
 rw [any_eq_false]
 intro b hb
 obtain ⟨i,hi⟩:=List.mem_iff_getElem?.1 hb
 rw [getElem?_zipWith] at hi
 have hlt:i<rs.length:=by
  refine Decidable.byContradiction fun hh=>?_;rw [getElem?_eq_none (by omega)] at hi;cases hi
 obtain ⟨x,hx⟩:∃ x,rs[i]? = some x:=⟨_,ai hlt⟩
 obtain ⟨L,hL⟩:∃ L,ls[i]? = some L:=⟨_,ai (by omega)⟩
 rw [hx,hL] at hi
 have e:b=decide ((L.dur:Int)<x.2):=(Option.some.inj hi).symm
 rw [e,af (h i x L hx hL)]
 exact Bool.false_ne_true
theorem tg {rs:List Rg} (h:AF.over ls rs=false) {i:Nat} {x:Rg} {L:aU} (hx:rs[i]? = some x) (hL:ls[i]? = some L):x.2≤(L.dur:Int):=
 Decidable.byContradiction fun hh=>by rw [oS hx hL (by omega)] at h; cases h
theorem ue {rs:List Rg} {a:Option Addr} {n c:Nat} (hr:∀ h',aG F h'→cv h' a (rs.flatMap fh)) (hn:rs.length=n) (hm:n<1099511627776) (hl:ls.length≤4) (H:aG (dN s fb ls::F) h) :
  aE prog 40 [aM s,.slice a n c] h fun v h'=>v=.int .i64 (cH ls rs:Int)∧aG (dN s fb ls::F) h':=by
 apply Ey.ap
 unfold I9
 refine (zr (rs:=rs) (fun h' H'=>hr h' H'.drop) hn H).mono ?_
 rintro v h2 ⟨rfl,H2⟩
 rw [aL]
 by_cases hrt:cx rs=true
 rotate_left
 · rw [am hrt,show ((80:Int)!=0)=true from rfl,ae];have:cH ls rs=80:=an (.inl (by cases h:cx rs with | false=>rfl | true=>exact absurd h hrt));rw [this];exact ⟨rfl,H2⟩
 rw [an hrt,show ((0:Int)!=0)=false from rfl,ab,aK]
 obtain ⟨qs,hq,H3⟩:=gz H2
 refine dX (v:=.int .i64 (ls.length:Int)) H3 rfl ?_
 rw [aL]
 by_cases hlen:n=ls.length
 rotate_left
 · rw [show (((n:Nat):Int)!=(ls.length:Int))=true from by rw [bne_iff_ne]; omega,ae];have:cH ls rs=80:=an (.inr (by omega));rw [this];exact ⟨rfl,H2⟩
 rw [show (((n:Nat):Int)!=(ls.length:Int))=false from by rw [hlen]; simp,ab]
 refine (pW hl H2).mono ?_
 rintro v h4 ⟨ea,rfl,H4⟩
 rw [aI]
 have hw:cH ls rs=if AF.over ls rs then 101 else 0:=am (by rw [hrt]; rintro (h | h); cases h; omega)
 refine ⟨fun st hh=>hh=h4∧∃ i:Nat,st=(i:Int)∧i≤ls.length∧∀ (j:Nat) (x:Rg) (L:aU),j<i→rs[j]? = some x→ls[j]? = some L→¬ (L.dur:Int)<x.2,fun st _=>((ls.length:Int) - st).toNat,⟨rfl,0,rfl,aw _,fun j x L hj=>by omega⟩,?_⟩
 rintro st h5 ⟨rfl,i,rfl,hi,hno⟩
 by_cases hil:i<ls.length
 rotate_left
 · rw [af (by omega),ab,hw,vB (by omega) (fun j x L hx hL=>hno j x L (by have:=(ak.1 hL).1; omega) hx hL)];exact ⟨rfl,H4.drop⟩
 rw [ah (show ((i:Int)<(ls.length:Int)) by omega),ae]
 obtain ⟨L,hL⟩:∃ L,ls[i]? = some L:=⟨_,ai hil⟩
 obtain ⟨x,hx⟩:∃ x,rs[i]? = some x:=⟨_,ai (by omega)⟩
 refine cN (s:=(L.dur:Int)) (aH H4) (aq _) (by rw [List.getElem?_map,hL]; rfl) fun b hb=>CI hb ?_
 refine dp (f:=fh) (fun _=>rfl) (by decide) (hr h5 H4.drop.drop) hn hx fun _ _ hc=>CI (hc 1 _ rfl) ?_
 by_cases ho:x.2>(L.dur:Int)
 · rw [ah ho,ae,hw,oS hx hL ho];exact ⟨rfl,H4.drop⟩
 rw [af ho,ab]
 refine ⟨⟨rfl,i+1,by rw [IntWalk.i64_in _ (by omega)]; rfl,by omega,fun j y M hj hy hM=>?_⟩,by rw [IntWalk.i64_in _ (by omega)]; show ((ls.length:Int) - ((i:Int)+1)).toNat<((ls.length:Int) - (i:Int)).toNat; omega⟩
 by_cases hji:j=i
 · subst hji;rw [hx] at hy;rw [hL] at hM;cases hy;cases hM;omega
 · exact hno j y M (by omega) hy hM
end
end Go.Proofs.YtdpaiiibndnanaaGreatDoor
