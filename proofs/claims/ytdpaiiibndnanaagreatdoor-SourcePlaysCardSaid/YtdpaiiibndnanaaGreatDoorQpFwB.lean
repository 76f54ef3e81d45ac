/- Heaps in parts: what is owned,what is never written again; a list of parts holds of a heap. Slices that are owned,slices that are read; append,and texts as lists of bytes. Loops that count,whole numbers as naturals,and the way out: what holds of a run is what a law asks. Lists of parts that are owned,parts of slices,bytes as naturals and as texts. Appends by the type's facts,whole numbers of four bytes. Ranges over maps: the iterator as a part of its own. Maps that are owned: looked up,set,deleted from. Every entry of a map once,in whatever order. One part among many: taken out,changed,put back. Parts chosen and ordered by their places. Words for walks that every program needs: reads and writes of blocks,rows of several cells,what is frozen. Ranges over functions that hand on the elements of a list,one by one. -/
import Derived.Test.YtdpaiiibndnanaaGreatDoorQpFwA
import Derived.Maps.AppendAt
import Derived.Laws.AppendOwn
import Derived.Laws.IdiomStrings
import Derived.Laws.CopyRow
import Derived.IntWalk
import Derived.Maps.RangeRun
import Derived.MapKept
namespace Go.Proofs.YtdpaiiibndnanaaGreatDoor
open Go.Builtin (append_)
open Go.IntKind (wrap)
open List (getD_eq_getElem?_getD take_left append_assoc take_append_drop map_append map_eq_nil_iff map_take map_drop filter_cons map_cons map_congr_left nil_append cons_append map_map append_nil getElem?_take mem_filter nodup_cons find?_cons flatMap_cons flatMap_append length_nil zipWith eq_nil_of_length_eq_zero any_eq_true getElem?_zipWith getElem?_set zipWith_append getElem?_drop set_append_right take_zero any_eq_false getElem_mem getElem?_cons_zero length_zipWith)
open Go Go.RowKit
set_option linter.unusedVariables false
set_option linter.unusedSimpArgs false
abbrev eL:=Nat→Option (Obj×Bool)
abbrev aF:=eL→Prop
def lh (r s:eL):Prop:=∀ b x y,r b=some x→s b=some y→x=y∧x.2=true
def cz (r s:eL):eL:=fun b=>match r b with
 | some x=>some x
 | none=>s b
def nQ (A B:aF):aF:=fun r=>∃ r1 r2,lh r1 r2∧r=cz r1 r2∧A r1∧B r2
def FG:aF:=fun r=>∀ b,r b=none
def ie:List aF→aF
 | []=>FG
 | A::l=>nQ A (ie l)
def sub (r:eL) (h:Heap):Prop:=∀ b x,r b=some x→h[b]? = some x.1
def aG (l:List aF) (h:Heap):Prop:=∃ r,ie l r∧sub r h
theorem kU {r s:eL} (h:lh r s):lh s r:=fun b x y hx hy=>by
 obtain ⟨e,t⟩:=h b y x hy hx
 exact ⟨e.symm,e▸t⟩
theorem oo {r s:eL} (h:lh r s):cz r s=cz s r:=by
 funext b
 unfold cz
 cases hr:r b with
 | none=>cases hs:s b <;> rfl
 | some x=>
   cases hs:s b with
   | none=>rfl
   | some y=>simp only []; rw [(h b x y hr hs).1]
theorem sL (r s t:eL):cz (cz r s) t=cz r (cz s t):=by
 funext b
 unfold cz
 cases hr:r b <;> rfl
theorem dQ {r s:eL} {b:Nat} {x:Obj×Bool} (h:r b=some x):cz r s b=some x:=by simp [cz,h]
theorem gR {r s:eL} {b:Nat} {x:Obj×Bool} (hd:lh r s) (h:s b=some x):cz r s b=some x:=by
 rw [oo hd]; exact dQ h
theorem ve {r s t:eL}:lh (cz r s) t↔lh r t∧lh s t∨(lh r t∧∀ b x y,r b=none→s b=some x→t b=some y→x=y∧x.2=true):=by
 constructor
 · intro h;refine .inr ⟨fun b x y hx hy=>h b x y (dQ hx) hy,fun b x y hr hx hy=>h b x y (by simp [cz,hr,hx]) hy⟩
 · rintro (⟨h1,h2⟩ | ⟨h1,h2⟩) b x y hx hy
   · unfold cz at hx
     cases hr:r b with
     | none=>rw [hr] at hx; exact h2 b x y hx hy
     | some z=>rw [hr] at hx; exact h1 b x y (by rw [hr]; exact hx) hy
   · unfold cz at hx
     cases hr:r b with
     | none=>rw [hr] at hx; exact h2 b x y hr hx hy
     | some z=>rw [hr] at hx; exact h1 b x y (by rw [hr]; exact hx) hy
theorem jq {A B:aF} {r:eL} (h:nQ A B r):nQ B A r:=by
 obtain ⟨r1,r2,hd,rfl,ha,hb⟩:=h
 exact ⟨r2,r1,kU hd,oo hd,hb,ha⟩
theorem AV {r1 r2 r3:eL} (h12:lh r1 r2) (h:lh (cz r1 r2) r3):lh r1 r3∧lh r2 r3:=
 ⟨fun b x y hx hy=>h b x y (dQ hx) hy,fun b x y hx hy=>h b x y (gR h12 hx) hy⟩
theorem AW {r1 r2 r3:eL} (h13:lh r1 r3) (h23:lh r2 r3):lh (cz r1 r2) r3:=ve.2 (.inl ⟨h13,h23⟩)
theorem kJ {A B C:aF} {r:eL} (h:nQ (nQ A B) C r):nQ A (nQ B C) r:=by
 obtain ⟨r12,r3,hd,rfl,⟨r1,r2,hd2,rfl,ha,hb⟩,hc⟩:=h
 obtain ⟨d13,d23⟩:=AV hd2 hd
 exact ⟨r1,cz r2 r3,kU (AW (kU hd2) (kU d13)),sL _ _ _,ha,r2,r3,d23,rfl,hb,hc⟩
theorem jJ {A B C:aF} {r:eL} (h:nQ A (nQ B C) r):nQ (nQ A B) C r:=
 jq (kJ (jq (kJ (jq h))))
theorem cY {A A' B B':aF} (ha:∀ r,A r→A' r) (hb:∀ r,B r→B' r) {r:eL} (h:nQ A B r):nQ A' B' r:=
 let ⟨r1,r2,hd,e,h1,h2⟩:=h
 ⟨r1,r2,hd,e,ha _ h1,hb _ h2⟩
theorem oy {A B C:aF} {r:eL} (h:nQ A (nQ B C) r):nQ B (nQ A C) r:=
 kJ (cY (fun _ h=>jq h) (fun _ h=>h) (jJ h))
theorem od {A:aF} {r:eL} (h:A r):nQ FG A r:=
 ⟨fun _=>none,r,fun _ _ _ h _=>by simp at h,by funext b; rfl,fun _=>rfl,h⟩
theorem Au {A:aF} {r:eL} (h:nQ FG A r):A r:=by
 obtain ⟨r1,r2,_,rfl,he,ha⟩:=h
 rwa [show cz r1 r2=r2 from by funext b; simp [cz,he b]]
theorem bQ {l m:List aF} {r:eL}:ie (l++m) r↔nQ (ie l) (ie m) r:=by
 induction l generalizing r with
 | nil=>exact ⟨od,Au⟩
 | cons A l ih=>
   simp only [cons_append,ie];exact ⟨fun h=>jJ (cY (fun _ h=>h) (fun _ h=>ih.1 h) h),fun h=>cY (fun _ h=>h) (fun _ h=>ih.2 h) (kJ h)⟩
def xP:Nat→List aF→List aF
 | 0,l=>l
 | _+1,[]=>[]
 | k+1,a::l=>match xP k l with
   | []=>[a]
   | x::r=>x::a::r
def FL:Nat→List aF→List aF
 | 0,l=>l
 | _+1,[]=>[]
 | _+1,[a]=>[a]
 | k+1,a::b::l=>b::FL k (a::l)
theorem rL:∀ (k:Nat) (l:List aF) (r:eL),ie l r→ie (xP k l) r
 | 0,l,r,h=>h
 | k+1,[],r,h=>h
 | k+1,a::l,r,h=>by
   have h2:nQ a (ie (xP k l)) r:=cY (fun _ h=>h) (fun r h=>rL k l r h) h;simp only [xP]
   cases he:xP k l with
   | nil=>rw [he] at h2; exact h2
   | cons x t=>rw [he] at h2; exact oy h2
theorem vu:∀ (k:Nat) (l:List aF) (r:eL),ie l r→ie (FL k l) r
 | 0,l,r,h=>h
 | k+1,[],r,h=>h
 | k+1,[a],r,h=>h
 | k+1,a::b::l,r,h=>cY (fun _ h=>h) (fun r h=>vu k (a::l) r h) (oy h)
section
variable {h:Heap} {l m:List aF} {A B:aF}
theorem aG.mv (k:Nat) (H:aG l h):aG (xP k l) h:=let ⟨r,hr,hs⟩:=H; ⟨r,rL k l r hr,hs⟩
theorem aG.bk (k:Nat) (H:aG l h):aG (FL k l) h:=let ⟨r,hr,hs⟩:=H; ⟨r,vu k l r hr,hs⟩
theorem aG.imp (hi:∀ r,A r→B r) (H:aG (A::l) h):aG (B::l) h:=let ⟨r,hr,hs⟩:=H; ⟨r,cY hi (fun _ h=>h) hr,hs⟩
theorem aG.drop (H:aG (A::l) h):aG l h:=by
 obtain ⟨r,⟨r1,r2,hd,rfl,_,h2⟩,hs⟩:=H
 exact ⟨r2,h2,fun b x hx=>hs b x (gR hd hx)⟩
theorem aG.dropTail (H:aG (l++m) h):aG l h:=by
 obtain ⟨r,hr,hs⟩:=H
 obtain ⟨r1,r2,hd,rfl,h1,_⟩:=bQ.1 hr
 exact ⟨r1,h1,fun b x hx=>hs b x (dQ hx)⟩
def bP (m:List aF):aF:=ie m
theorem aG.open (H:aG (bP m::l) h):aG (m++l) h:=let ⟨r,hr,hs⟩:=H; ⟨r,bQ.2 hr,hs⟩
theorem aG.shut (H:aG (m++l) h):aG (bP m::l) h:=let ⟨r,hr,hs⟩:=H; ⟨r,bQ.1 hr,hs⟩
def lY (p:Prop):aF:=fun r=>p∧FG r
theorem cE {p:Prop}:aG (lY p::l) h↔p∧aG l h:=by
 constructor
 · rintro ⟨r,⟨r1,r2,hd,rfl,⟨hp,he⟩,h2⟩,hs⟩;exact ⟨hp,r2,h2,fun b x hx=>hs b x (gR hd hx)⟩
 · rintro ⟨hp,r,hr,hs⟩;obtain ⟨r1,r2,hd,e,h1,h2⟩:=od hr;exact ⟨r,⟨r1,r2,hd,e,⟨hp,h1⟩,h2⟩,hs⟩
def pZ {α:Sort _} (A:α→aF):aF:=fun r=>∃ x,A x r
theorem bD {α:Sort _} {A:α→aF}:aG (pZ A::l) h↔∃ x,aG (A x::l) h:=by
 constructor
 · rintro ⟨r,⟨r1,r2,hd,e,⟨x,hx⟩,h2⟩,hs⟩;exact ⟨x,r,⟨r1,r2,hd,e,hx,h2⟩,hs⟩
 · rintro ⟨x,r,⟨r1,r2,hd,e,hx,h2⟩,hs⟩;exact ⟨r,⟨r1,r2,hd,e,⟨x,hx⟩,h2⟩,hs⟩
def pt (b:Nat) (o:Obj):aF:=fun r=>r=fun c=>if c=b then some (o,false) else none
def ro (b:Nat) (o:Obj):aF:=fun r=>r=fun c=>if c=b then some (o,true) else none
theorem aG.get {b:Nat} {o:Obj} (H:aG (pt b o::l) h):h[b]? = some o:=by
 obtain ⟨r,⟨r1,r2,hd,rfl,rfl,h2⟩,hs⟩:=H
 exact hs b (o,false) (dQ (by simp))
theorem aG.getRo {b:Nat} {o:Obj} (H:aG (ro b o::l) h):h[b]? = some o:=by
 obtain ⟨r,⟨r1,r2,hd,rfl,rfl,h2⟩,hs⟩:=H
 exact hs b (o,true) (dQ (by simp))
theorem aG.upd {b:Nat} {o:Obj} (H:aG (pt b o::l) h) {h':Heap} (o':Obj) (hb:h'[b]? = some o') (ho:∀ c,c≠b→c<h.size→h'[c]? = h[c]?):aG (pt b o'::l) h':=by
 obtain ⟨r,⟨r1,r2,hd,rfl,rfl,h2⟩,hs⟩:=H
 have hn:r2 b=none:=by
  cases hr:r2 b with
  | none=>rfl
  | some y=>
    have:=hd b (o,false) y (by simp) hr;exact absurd this.2 (by simp)
 refine ⟨_,⟨fun c=>if c=b then some (o',false) else none,r2,fun c x y hx hy=>?_,rfl,rfl,h2⟩,fun c x hx=>?_⟩
 · by_cases hc:c=b
   · subst hc; rw [hn] at hy; cases hy
   · simp [hc] at hx
 · by_cases hc:c=b
   · subst hc;simp [cz] at hx;subst hx;exact hb
   · simp only [cz,hc,if_false] at hx;have h1:=hs c x (by simp only [cz,hc,if_false]; exact hx);rw [ho c hc (Array.getElem?_eq_some_iff.1 h1).1];exact h1
theorem aG.set {b:Nat} {o:Obj} (H:aG (pt b o::l) h) (o':Obj):aG (pt b o'::l) (h.setIfInBounds b o'):=by
 have hb:=H.get
 have hlt:b<h.size:=(Array.getElem?_eq_some_iff.1 hb).1
 exact H.upd o' (by simp [Array.getElem?_setIfInBounds_self,hlt]) fun c hc _=>Array.getElem?_setIfInBounds_ne (Ne.symm hc)
theorem aG.new (H:aG l h) {h':Heap} {b:Nat} {o:Obj} (hb:h'[b]? = some o) (hn:h.size≤b) (ho:∀ c,c<h.size→h'[c]? = h[c]?):aG (pt b o::l) h':=by
 obtain ⟨r,hr,hs⟩:=H
 have hnone:r b=none:=by
  cases he:r b with
  | none=>rfl
  | some x=>
    have h1:=(Array.getElem?_eq_some_iff.1 (hs b x he)).1;omega
 refine ⟨_,⟨fun c=>if c=b then some (o,false) else none,r,fun c x y hx hy=>?_,rfl,rfl,hr⟩,fun c x hx=>?_⟩
 · by_cases hc:c=b
   · subst hc; rw [hnone] at hy; cases hy
   · simp [hc] at hx
 · by_cases hc:c=b
   · subst hc;simp [cz] at hx;subst hx;exact hb
   · simp only [cz,hc,if_false] at hx;have h1:=hs c x hx;rw [ho c (Array.getElem?_eq_some_iff.1 h1).1];exact h1
theorem aG.push (H:aG l h) (o:Obj):aG (pt h.size o::l) (h.push o):=
 H.new (by simp) (ax _) fun c hc=>by rw [Array.getElem?_push,am (by omega)]
def iT (A:aF):Prop:=∀ r,A r→∀ b x,r b=some x→x.2=true
theorem aG.dup (hp:iT A) (H:aG (A::l) h):aG (A::A::l) h:=by
 obtain ⟨r,⟨r1,r2,hd,rfl,h1,h2⟩,hs⟩:=H
 refine ⟨cz r1 r2,⟨r1,cz r1 r2,fun b x y hx hy=>?_,?_,h1,r1,r2,hd,rfl,h1,h2⟩,hs⟩
 · rw [dQ hx] at hy; cases hy; exact ⟨rfl,hp _ h1 b x hx⟩
 · funext b;unfold cz;cases r1 b <;> rfl
theorem lT (b:Nat) (o:Obj):iT (ro b o):=by
 rintro r rfl c x hx
 by_cases hc:c=b
 · simp [hc] at hx; subst hx; rfl
 · simp [hc] at hx
theorem iT.many:∀ {m:List aF},(∀ A∈m,iT A)→iT (bP m)
 | [],_,r,hr,b,x,hx=>by rw [show r b=none from hr b] at hx; cases hx
 | A::m,hm,r,⟨r1,r2,hd,e,h1,h2⟩,b,x,hx=>by
   subst e;unfold cz at hx
   cases h:r1 b with
   | none=>rw [h] at hx; exact iT.many (fun A hA=>hm A (by simp [hA])) r2 h2 b x hx
   | some y=>rw [h] at hx; cases hx; exact hm A (by simp) r1 h1 b _ h
theorem iT.pZ {α:Sort _} {A:α→aF} (h:∀ x,iT (A x)):iT (pZ A):=fun r ⟨x,hx⟩=>h x r hx
theorem iT.lY (p:Prop):iT (lY p):=fun r ⟨_,he⟩ b x hx=>by rw [he b] at hx; cases hx
theorem aG.freeze {b:Nat} {o:Obj} (H:aG (pt b o::l) h):aG (ro b o::l) h:=by
 obtain ⟨r,⟨r1,r2,hd,rfl,rfl,h2⟩,hs⟩:=H
 refine ⟨_,⟨fun c=>if c=b then some (o,true) else none,r2,fun c x y hx hy=>?_,rfl,rfl,h2⟩,fun c x hx=>?_⟩
 · by_cases hc:c=b
   · subst hc;have:=hd c (o,false) y (by simp) hy;exact absurd this.2 (by simp)
   · simp [hc] at hx
 · by_cases hc:c=b
   · subst hc;simp [cz] at hx;subst hx;exact hs c (o,false) (dQ (by simp))
   · simp only [cz,hc,if_false] at hx;exact hs c x (by simp only [cz,hc,if_false]; exact hx)
def old (h0:Heap):aF:=fun r=>r=fun b=>(h0[b]?).map fun o=>(o,true)
theorem Aw (h0:Heap):aG [old h0] h0:=by
 refine ⟨_,⟨_,fun _=>none,fun b x y hx hy=>by simp at hy,rfl,rfl,fun _=>rfl⟩,fun b x hx=>?_⟩
 unfold cz at hx
 cases hb:h0[b]? with
 | none=>simp [hb] at hx
 | some o=>simp [hb] at hx; subst hx; rfl
theorem aG.oldGet {h0:Heap} (H:aG (old h0::l) h) {b:Nat} (hb:b<h0.size):h[b]? = h0[b]? := by
 obtain ⟨r,⟨r1,r2,hd,rfl,rfl,h2⟩,hs⟩:=H
 have:h0[b]? = some h0[b]:=by simp [hb]
 rw [this]
 exact hs b (h0[b],true) (dQ (by simp [this]))
theorem aG.oldSize {h0:Heap} (H:aG (old h0::l) h):h0.size≤h.size:=by
 rcases Nat.lt_or_ge h.size h0.size with hlt | hge
 · have h1:=H.oldGet (b:=h.size) hlt;have:h[h.size]? = none:=by simp
   rw [this] at h1;simp [hlt] at h1
 · exact hge
theorem aG.oldCell {h0:Heap} (H:aG (old h0::l) h) {a:Addr} {v:Value} (hv:bI h0 a=some v):bI h a=some v:=by
 unfold bI at hv ⊢
 cases hb:h0[a.block]? with
 | none=>rw [hb] at hv; cases hv
 | some o=>rw [H.oldGet (Array.getElem?_eq_some_iff.1 hb).1]; exact hv
end
theorem cm {h:Heap} {b:Nat} {c:Array Value} {e:TypeId} {fr:Nat×Nat} (hb:h[b]? = some (.cells c e fr)) (i:Nat):bI h ⟨b,i,none⟩=c[i]? := by
 simp [bI,hb]
theorem tD {h:Heap} {b:Nat} {c:Array Value} {e:TypeId} {lo hi:Nat} (hb:h[b]? = some (.cells c e (lo,hi))) (i:Nat):gY h ⟨b,i,none⟩=(decide (lo≤i)&&decide (i<hi)):=by
 simp [gY,hb]
@[simp] theorem aL (k:IntKind) (x:Int) (K:Int→Prop):DI k (.int k x) K=K x:=by simp [DI]
@[simp] theorem bO (x:Bool) (K:Bool→Prop):DB (.bool x) K=K x:=by simp [DB]
@[simp] theorem aT (x:ByteArray) (K:ByteArray→Prop):DS (.string x) K=K x:=by simp [DS]
@[simp] theorem bo (x:Option Addr) (K:Option Addr→Prop):DP (.pointer x) K=K x:=by simp [DP]
@[simp] theorem cM (x:Option Nat) (K:Option Nat→Prop):DM (.map x) K=K x:=by simp [DM]
@[simp] theorem aI (p:Option Addr) (l c:Nat) (K:Option Addr→Nat→Nat→Prop):aZ (.slice p l c) K=K p l c:=by
  simp only [aZ,eq_iff_iff];constructor
  · rintro ⟨p',l',c',h,hk⟩; cases h; exact hk
  · exact fun hk=>⟨p,l,c,rfl,hk⟩
@[simp] theorem aP (a:Addr):a.add 0=a:=by simp [Addr.add]
@[simp] theorem g4 (b o n:Nat):(Addr.mk b o none).add n=⟨b,o+n,none⟩:=by
  unfold Addr.add; split
  · next h=>subst h; rfl
  · rfl
theorem aW {l:List aF} {h:Heap} {o:Obj} {K:Nat→Heap→Prop} (H:aG l h) (hK:∀ b h',aG (pt b o::l) h'→K b h'):Al h o K:=hK _ _ (H.push o)
theorem ym {h:Heap} {b i:Nat} {c:Array Value} {e:TypeId} {fr:Nat×Nat} {v:Value} (hb:h[b]? = some (.cells c e fr)):yn h ⟨b,i,none⟩ v=h.setIfInBounds b (.cells (c.setIfInBounds i v) e fr):=by
 obtain ⟨hlt,hb'⟩:=Array.getElem?_eq_some_iff.1 hb
 apply Array.ext_getElem?
 intro j
 simp only [yn]
 by_cases hj:j=b
 · subst hj;rw [Array.getElem?_modify,an rfl,hb];simp [hlt]
 · rw [Array.getElem?_modify,am (fun e=>hj e.symm),Array.getElem?_setIfInBounds_ne (Ne.symm hj)]
theorem jW {l:List aF} {h:Heap} {b i:Nat} {c:Array Value} {e:TypeId} {lo hi:Nat} {v:Value} {K:Heap→Prop} (H:aG (pt b (.cells c e (lo,hi))::l) h)
  (hi':i<c.size) (hf:¬ (lo≤i∧i<hi)) (hK:∀ h',aG (pt b (.cells (c.setIfInBounds i v) e (lo,hi))::l) h'→K h'):bN h ⟨b,i,none⟩ v K:=by
 have hb:=H.get
 refine ⟨⟨c[i],by rw [cm hb]; simp [hi']⟩,?_,?_⟩
 · rw [tD hb];by_cases h1:lo≤i
   · have:¬ i<hi:=fun h2=>hf ⟨h1,h2⟩;simp [this]
   · simp [h1]
 · rw [ym hb];exact hK _ (H.set _)
def cv (h:Heap) (a:Option Addr) (xs:List Value):Prop:=
 match a with
 | none=>xs=[]
 | some a=>∀ j v,xs[j]? = some v→bI h (a.add j)=some v
def uL (fr:Nat×Nat) (n:Nat):Prop:=∀ i,i<n→¬ (fr.1≤i∧i<fr.2)
theorem eD (n:Nat):uL (0,0) n:=fun i _ h=>by have:=h.2; simp at this
theorem yJ (n:Nat):uL (n,n+1) n:=fun i hi h=>by have:=h.1; simp at this; omega
def aQ (e sz:Nat) (a:Option Addr) (l c:Nat) (xs:List Value):aF:=fun r=>
 xs.length=l*sz∧((a=none∧l=0∧c=0∧FG r)∨
  ∃ b cells fr,a=some ⟨b,0,none⟩∧l≤c∧c≤maxLen∧cells.size=c*sz∧uL fr cells.size∧cells.toList.take (l*sz)=xs∧pt b (.cells cells e fr) r)
section
variable {h:Heap} {F:List aF} {e sz:Nat} {a:Option Addr} {l c:Nat} {xs:List Value}
theorem dB (H:aG (aQ e sz a l c xs::F) h):xs.length=l*sz∧((a=none∧l=0∧c=0∧xs=[]∧aG F h)∨
  ∃ b cells fr,a=some ⟨b,0,none⟩∧l≤c∧c≤maxLen∧cells.size=c*sz∧uL fr cells.size∧cells.toList.take (l*sz)=xs∧aG (pt b (.cells cells e fr)::F) h):=by
 obtain ⟨r,⟨r1,r2,hd,rfl,⟨hl,h1⟩,h2⟩,hs⟩:=H
 refine ⟨hl,?_⟩
 rcases h1 with ⟨ha,hl0,hc0,he⟩ | ⟨b,cells,fr,ha,hlc,hcm,hcs,hfr,ht,hp⟩
 · refine .inl ⟨ha,hl0,hc0,?_,r2,h2,fun b x hx=>hs b x (gR hd hx)⟩;subst hl0;exact eq_nil_of_length_eq_zero (by simpa using hl)
 · exact .inr ⟨b,cells,fr,ha,hlc,hcm,hcs,hfr,ht,_,⟨r1,r2,hd,rfl,hp,h2⟩,hs⟩
theorem fe {b:Nat} {cells:Array Value} {fr:Nat×Nat} (H:aG (pt b (.cells cells e fr)::F) h) (hfr:uL fr cells.size) (hlc:l≤c) (hcm:c≤maxLen) (hcs:cells.size=c*sz) (ht:cells.toList.take (l*sz)=xs) :
  aG (aQ e sz (some ⟨b,0,none⟩) l c xs::F) h:=by
 have hlen:xs.length=l*sz:=by
  rw [← ht,au];have:l*sz≤c*sz:=Nat.mul_le_mul_right _ hlc;simp; omega
 exact H.imp fun r hr=>⟨hlen,.inr ⟨b,cells,fr,rfl,hlc,hcm,hcs,hfr,ht,hr⟩⟩
theorem bR (e sz:Nat) (H:aG F h):aG (aQ e sz none 0 0 []::F) h:=by
 obtain ⟨r,hr,hs⟩:=H
 obtain ⟨r1,r2,hd,e1,h1,h2⟩:=od hr
 exact ⟨r,⟨r1,r2,hd,e1,⟨by simp,.inl ⟨rfl,rfl,rfl,h1⟩⟩,h2⟩,hs⟩
theorem dH {b:Nat} {cells:Array Value} {fr:Nat×Nat} (hb:h[b]? = some (.cells cells e fr)) (j:Nat):bI h ((Addr.mk b 0 none).add j)=cells[j]? := by
 rw [g4,Nat.zero_add,cm hb]
theorem aH (H:aG (aQ e sz a l c xs::F) h):cv h a xs:=by
 obtain ⟨hl,⟨rfl,rfl,rfl,rfl,_⟩ | ⟨b,cells,fr,rfl,hlc,hcm,hcs,hfr,ht,H⟩⟩:=dB H
 · rfl
 · intro j v hv;rw [dH H.get,← Array.getElem?_toList];rw [← ht,getElem?_take] at hv;split at hv
   · exact hv
   · cases hv
theorem dA (H:aG (aQ e sz a l c xs::F) h):xs.length=l*sz∧l≤c∧c≤maxLen:=by
 obtain ⟨hl,⟨rfl,rfl,rfl,rfl,_⟩ | ⟨b,cells,fr,rfl,hlc,hcm,hcs,hfr,ht,H⟩⟩:=dB H
 · exact ⟨hl,ax _,aw _⟩
 · exact ⟨hl,hlc,hcm⟩
end
theorem iW (P:Program) (g o:Nat) (t:TypeId) (fz:Nat×Nat):∀ (vs:List Value) (i:Nat) (cur:Array Value) (w:World),w.heap[g]? = some (.cells cur t fz)→uL fz cur.size→o+i+vs.length≤cur.size→(∀ v∈vs,v.oneCell'=true)→
  (storeCells ⟨g,o,none⟩ vs i).run P w=.ok () (w.setRow g (cur.toList.take (o+i)++vs++cur.toList.drop (o+i+vs.length)).toArray)
 | [],i,cur,w,hg,_,_,_=>by
   simp only [storeCells,append_nil,length_nil,Nat.add_zero,take_append_drop,Array.toArray_toList];rw [setRow_self w g cur t fz hg]
   rfl
 | v::rest,i,cur,w,hg,hfz,hl,h1=>by
   have hi:o+i<cur.size:=by simp at hl; omega
   have hadd:(⟨g,o,none⟩:Addr).add i=⟨g,o+i,none⟩:=g4 _ _ _;have hcell:w.cell? ⟨g,o+i,none⟩=some cur[o+i]:=by simp [World.cell?,hg,hi]
   have hfro:w.frozen? ⟨g,o+i,none⟩=false:=by
    have hz:=hfz (o+i) hi;obtain ⟨lo,hi'⟩:=fz;simp only [World.frozen?,hg,Bool.and_eq_false_iff,decide_eq_false_iff_not];simp only at hz;omega
   have hst:(store ((⟨g,o,none⟩:Addr).add i) v).run P w=.ok () (w.setRow g (cur.setIfInBounds (o+i) v)):=by
    rw [hadd,run_store P w _ v _ (h1 v (by simp)),hcell];simp [hfro,setCell_eq_setRow w g (o+i) cur t fz v hg]
   have ih:=iW P g o t fz rest (i+1) (cur.setIfInBounds (o+i) v) (w.setRow g (cur.setIfInBounds (o+i) v)) (setRow_heap w g cur _ t _ hg) (by simpa using hfz) (by simp at hl ⊢; omega) (fun x hx=>h1 x (by simp [hx]));simp only [storeCells,Sem.run_bind,hst,Result.andThen_ok,ih,setRow_setRow];congr 3;have e:=list_seg_step cur.toList (o+i) v rest (by simp at hl ⊢; omega);simpa [Array.toList_setIfInBounds,Nat.add_assoc] using e
theorem ld {P:Program} (w:World) (b l sz c:Nat) (cells:Array Value) (e:TypeId) (fr:Nat×Nat) (news:List Value) (n:Nat) (hb:w.heap[b]? = some (.cells cells e fr)) (hfr:uL fr cells.size) (hcs:cells.size=c*sz)
  (hl:news.length=n*sz) (hroom:l+n≤c) (h1:∀ u∈news,u.oneCell'=true) :
  (storeCells ((Addr.mk b 0 none).add (l*sz)) news).run P w=.ok () (w.setRow b (cells.toList.take (l*sz)++news++cells.toList.drop (l*sz+news.length)).toArray):=by
 rw [g4,Nat.zero_add]
 have:=iW P b (l*sz) e fr news 0 cells w hb hfr (by rw [hl,hcs,Nat.add_zero,← Nat.add_mul]; exact Nat.mul_le_mul_right _ hroom) h1
 rw [Nat.add_zero] at this
 exact this
def rk (P:Program) (h:Heap) (sz:Nat) (x:Value) (n:Nat) (ys:List Value):Prop:=
 ys.length=n*sz∧∀ w:World,w.heap=h→(Builtin.lenOf x).run P w=.ok n w∧(Builtin.firstCells sz n x).run P w=.ok ys.toArray w
theorem bJ {P:Program} {h:Heap} {sz:Nat} {a:Option Addr} {n c:Nat} {ys:List Value} (hr:cv h a ys) (hl:ys.length=n*sz):rk P h sz (.slice a n c) n ys:=by
 refine ⟨hl,fun w hw=>⟨rfl,?_⟩⟩
 cases a with
 | none=>
   simp only [cv] at hr;subst hr
   rfl
 | some a=>exact run_firstCells_some (P:=P) (w:=w) sz n a n c ys hl (fun j v hv=>by rw [dU,hw]; exact hr j v hv)
def bv (b:UInt8):Value:=.int .u8 (b.toNat:Int)
def d8 (P:Program) (u:TypeId):Bool:=
 match P.underlying u with
 | some (.slice _)=>true
 | some .string=>true
 | _=>false
theorem iV {P:Program} {u:TypeId} (h:d8 P u=true):(∃ e,P.underlying u=some (.slice e))∨P.underlying u=some .string:=by
 unfold d8 at h
 split at h
 · rename_i e he; exact .inl ⟨e,he⟩
 · rename_i he; exact .inr he
 · cases h
theorem lN {P:Program} {h:Heap} {F:List aF} {a:Option Addr} {l c:Nat} {xs ys:List Value} {t u ty e:TypeId} {i:TypeInfo} {z:Value} {x:Value} {n:Nat} {K:Value→Heap→Prop}
  (ht:P.underlying t=some (.slice e)) (hu:d8 P u=true) (hi:P.info? e=some i) (hz:i.zero=some z) (hzs:z.cells.size=i.size) (hpos:0<i.size)
  (H:aG (aQ e i.size a l c xs::F) h) (hx:rk P h i.size x n ys) (h1:∀ u∈ys,u.oneCell'=true) (hm:l+n≤9223372036854775807) (hb:(l+n)*i.bytes≤140737488355328)
  (hmm:l+n≤maxLen)
  (hK:∀ a' c' h',(a'=none→l+n=0)→aG (aQ e i.size a' (l+n) c' (xs++ys)::F) h'→K (.slice a' (l+n) c') h') :
  bB P (append_ #[t,u] ty #[.slice a l c,x]) h K:=by
 intro w hw
 subst hw
 obtain ⟨hyl,hsrc⟩:=hx
 obtain ⟨hl,hcase⟩:=dB H
 have grown:∀ c0:Nat,c0<l+n→aG (aQ e i.size (some ⟨w.heap.size,0,none⟩) (l+n) (grownCap w (l+n) c0 e) (xs++ys)::F)
   (w.drew.alloc (.cells (xs.toArray++ys.toArray++Builtin.zeroCells z.cells (grownCap w (l+n) c0 e - (l+n))) e)).heap:=fun c0 hc0=>by
  have hF:aG F w.heap:=H.drop;have hge:=grownCap_ge w (l+n) c0 e;have hcm:grownCap w (l+n) c0 e≤maxLen:=grownCap_le_maxLen w (l+n) c0 e hmm;refine fe (hF.push _) (eD _) hge hcm ?_ ?_
  · simp only [Array.size_append,List.size_toArray,size_zeroCells,hzs,hl,hyl,← Nat.add_mul];congr 1;omega
  · have e2:(l+n)*i.size=(xs++ys).length:=by rw [ao,hl,hyl,Nat.add_mul]
    simp only [Array.toList_append,e2];exact take_left
 rcases hcase with ⟨rfl,rfl,rfl,rfl,hF⟩ | ⟨b,cells,fr,rfl,hlc,hcm,hcs,hfr,htk,H2⟩
 · by_cases hn:n=0
   · subst hn;have hy:ys=[]:=eq_nil_of_length_eq_zero (by simpa using hyl);subst hy;refine ⟨.slice none 0 0,w,?_,.refl w,hK none 0 w.heap (fun _=>rfl) (bR _ _ hF)⟩;obtain ⟨s1,s2⟩:=hsrc w rfl;simp only [append_]
     rcases iV hu with ⟨e',hd⟩ | hd <;> simp [run_underlying ht,run_underlying hd,sizeOf,typeInfo,hi,s1,s2]
   · refine ⟨.slice (some ⟨w.heap.size,0,none⟩) (0+n) (grownCap w (0+n) 0 e),w.drew.alloc (.cells (([]:List Value).toArray++ys.toArray++Builtin.zeroCells z.cells (grownCap w (0+n) 0 e - (0+n))) e),?_,⟨rfl,rfl,rfl⟩,hK _ _ _ (fun e=>by cases e) (grown 0 (by omega))⟩;obtain ⟨s1,s2⟩:=hsrc w rfl;obtain ⟨s3,s4⟩:=hsrc w.drew rfl;have e0:∀ w,(Builtin.firstCells i.size 0 (.slice none 0 0)).run P w=.ok #[] w:=fun _=>rfl;have h63':¬ (9223372036854775807<(n:Int)):=by omega
     have h48':¬ (281474976710656<Builtin.nextslicecap n 0*i.bytes):=by
      have:=growslice_fits (need:=n) (old:=0) (bytes:=i.bytes) (by omega) (by simpa using hb);omega
     simp only [append_]
     rcases iV hu with ⟨e',hd⟩ | hd <;> simp [run_underlying ht,run_underlying hd,sizeOf,typeInfo,zeroValue,hi,hz,s1,hn,h63',h48',Question.forced,s4,e0,newRow,grownCap]
 · by_cases hroom:l+n≤c
   · have hstore:=ld (P:=P) w b l i.size c cells e fr ys n H2.get hfr hcs hyl hroom h1;have hup:aG (pt b (.cells (cells.toList.take (l*i.size)++ys++cells.toList.drop (l*i.size+ys.length)).toArray e fr)::F) (w.setRow b (cells.toList.take (l*i.size)++ys++cells.toList.drop (l*i.size+ys.length)).toArray).heap:=
      H2.upd _ (setRow_heap w b cells _ e fr H2.get) fun k hk _=>setRow_other w b k _ hk
     refine ⟨.slice (some ⟨b,0,none⟩) (l+n) c,w.setRow b (cells.toList.take (l*i.size)++ys++cells.toList.drop (l*i.size+ys.length)).toArray,?_,⟨rfl,rfl,rfl⟩,hK _ _ _ (fun e=>by cases e) (fe hup ?_ hroom hcm ?_ ?_)⟩
     · obtain ⟨s1,s2⟩:=hsrc w rfl;simp only [append_];simp only [g4,Nat.zero_add] at hstore
       rcases iV hu with ⟨e',hd⟩ | hd <;> (simp [run_underlying ht,run_underlying hd,sizeOf,typeInfo,hi,s1,s2,hroom]; rw [hstore]; simp [Result.andThen])
     · have hle:l*i.size+ys.length≤cells.size:=by rw [hyl,hcs,← Nat.add_mul]; exact Nat.mul_le_mul_right _ hroom
       rw [show (cells.toList.take (l*i.size)++ys++cells.toList.drop (l*i.size+ys.length)).toArray.size=cells.size by simp; omega];exact hfr
     · have hle:l*i.size+ys.length≤cells.size:=by rw [hyl,hcs,← Nat.add_mul]; exact Nat.mul_le_mul_right _ hroom
       simp;omega
     · have e2:(l+n)*i.size=(xs++ys).length:=by rw [ao,hl,hyl,Nat.add_mul]
       simp only [htk,e2];exact take_left
   · refine ⟨.slice (some ⟨w.heap.size,0,none⟩) (l+n) (grownCap w (l+n) c e),w.drew.alloc (.cells (xs.toArray++ys.toArray++Builtin.zeroCells z.cells (grownCap w (l+n) c e - (l+n))) e),?_,⟨rfl,rfl,rfl⟩,hK _ _ _ (fun e=>by cases e) (grown c (by omega))⟩;obtain ⟨s1,s2⟩:=hsrc w rfl;obtain ⟨s3,s4⟩:=hsrc w.drew rfl;have h63':¬ (9223372036854775807<((l:Int)+(n:Int))):=by omega
     have h48':¬ (281474976710656<Builtin.nextslicecap (l+n) c*i.bytes):=by
      have:=growslice_fits (need:=l+n) (old:=c) (bytes:=i.bytes) (by omega) hb;omega
     have hfo:=run_firstCells_some (P:=P) (w:=w.drew) i.size l ⟨b,0,none⟩ l c xs hl (fun j v hv=>by
      rw [dU]; exact aH H j v hv)
     simp only [append_]
     rcases iV hu with ⟨e',hd⟩ | hd <;> (simp [run_underlying ht,run_underlying hd,sizeOf,typeInfo,zeroValue,hi,hz,s1,hroom,h63',h48',Question.forced,s4,hfo,newRow,grownCap] <;> (congr 2; apply Array.ext'; simp [append_assoc]))
theorem tN {P:Program} {h:Heap} {F:List aF} {qo dst e:TypeId} {s:ByteArray} {K:Value→Heap→Prop} (hs:P.underlying qo=some .string) (hd:P.underlying dst=some (.slice e)) (he:P.underlying e=some (.int .u8))
  (hz:s.size≤maxLen) (H:aG F h) (hK:∀ b c h',aG (aQ e 1 (some ⟨b,0,none⟩) s.size c (s.data.toList.map bv)::F) h'→K (.slice (some ⟨b,0,none⟩) s.size c) h') :
  bB P (Go.convert qo dst (.string s)) h K:=by
 intro w hw
 subst hw
 refine ⟨_,_,run_bytes_of_string w qo dst e s hs hd he,⟨rfl,rfl,rfl⟩,hK _ _ _ ?_⟩
 have hge:=grownCap_ge w s.size 0 e
 have hcm:grownCap w s.size 0 e≤maxLen:=grownCap_le_maxLen w s.size 0 e hz
 have hsz:(bytesRow s (grownCap w s.size 0 e)).size=grownCap w s.size 0 e:=by
  have:s.data.size=s.size:=rfl;simp [bytesRow];omega
 refine fe (fr:=((bytesRow s (grownCap w s.size 0 e)).size,(bytesRow s (grownCap w s.size 0 e)).size+1)) (H.push _) (yJ _) hge hcm (by rw [hsz,Nat.mul_one]) ?_
 have e2:s.size*1=(s.data.toList.map bv).length:=by rw [Nat.mul_one,aq]; rfl
 simp only [bytesRow,Array.toList_append,e2,Array.toList_map]
 exact take_left
theorem cO {h:Heap} {F:List aF} {e sz:Nat} {a:Addr} {l c:Nat} {xs:List Value} {j:Nat} {v:Value} {K:Heap→Prop} (H:aG (aQ e sz (some a) l c xs::F) h) (hj:j<xs.length)
  (hK:∀ h',aG (aQ e sz (some a) l c (xs.set j v)::F) h'→K h'):bN h (a.add j) v K:=by
 obtain ⟨hl,⟨h1,_⟩ | ⟨b,cells,fr,h1,hlc,hcm,hcs,hfr,ht,H2⟩⟩:=dB H
 · cases h1
 · cases h1;have hjc:j<cells.size:=by
    have:=congrArg List.length ht;simp at this;omega
   rw [g4,Nat.zero_add];obtain ⟨lo,hi⟩:=fr;refine jW H2 hjc (hfr j hjc) fun h' H'=>hK _ (fe H' (by simpa using hfr) hlc hcm (by simpa using hcs) ?_);rw [Array.toList_setIfInBounds,← ht,List.take_set]
theorem bf.count {S:Type} {F:(S→Heap→Prop)→S→Heap→Prop} {h:Heap} (n:Nat) (st:Nat→S) (m:S→Nat) (hm:∀ i,i≤n→m (st i)=n - i)
  (step:∀ i again,i<n→again (st (i+1)) h→F again (st i) h) (last:∀ again,F again (st n) h):bf F (st 0) h:=by
 refine ⟨fun s h'=>h'=h∧∃ i,i≤n∧s=st i,fun s _=>m s,⟨rfl,0,aw _,rfl⟩,?_⟩
 rintro s h' ⟨rfl,i,hi,rfl⟩
 rcases Nat.lt_or_ge i n with hl | hl
 · exact step i _ hl ⟨⟨rfl,i+1,hl,rfl⟩,by show m _<m _; rw [hm (i+1) hl,hm i hi]; omega⟩
 · have:i=n:=by omega
   subst this;exact last _
theorem bf.upto {S:Type} {F:(S→Heap→Prop)→S→Heap→Prop} {s0:S} {h0:Heap} (n:Nat) (J:Nat→S→Heap→Prop) (m:S→Nat) (hm:∀ i s h,J i s h→i≤n∧m s=n - i) (start:J 0 s0 h0)
  (step:∀ i s h again,i<n→J i s h→(∀ s' h',J (i+1) s' h'→again s' h')→F again s h) (last:∀ s h again,J n s h→F again s h):bf F s0 h0:=by
 refine ⟨fun s h'=>∃ i,J i s h',fun s _=>m s,⟨0,start⟩,?_⟩
 rintro s h' ⟨i,hi⟩
 obtain ⟨hle,hmi⟩:=hm i s h' hi
 rcases Nat.lt_or_ge i n with hl | hl
 · refine step i s h' _ hl hi fun s2 h2 hj=>⟨⟨i+1,hj⟩,?_⟩
   obtain ⟨_,hmj⟩:=hm _ _ _ hj;show m _<m _;rw [hmj,hmi];omega
 · have:i=n:=by omega
   subst this;exact last _ _ _ hi
theorem sI {a b:Nat} (ha:a<4294967296) (hb:b<4294967296):cf .xor .u32 (a:Int) (b:Int)=((a ^^^ b:Nat):Int):=by
 have h:=Nat.xor_lt_two_pow (n:=32) ha hb
 show IntKind.u32.wrap ((BitVec.ofInt 32 (a:Int) ^^^ BitVec.ofInt 32 (b:Int)).toNat:Int)=_
 rw [BitVec.ofInt_natCast,BitVec.ofInt_natCast,BitVec.toNat_xor,BitVec.toNat_ofNat,BitVec.toNat_ofNat,Nat.mod_eq_of_lt (show a<2^32 from ha),Nat.mod_eq_of_lt (show b<2^32 from hb)]
 exact IntWalk.u32_in _ (by omega)
theorem FP {a b:Nat} (ha:a<4294967296) (hb:b<4294967296):cf .and .u32 (a:Int) (b:Int)=((a &&& b:Nat):Int):=by
 have h:=Nat.and_lt_two_pow (n:=32) a hb
 show IntKind.u32.wrap ((BitVec.ofInt 32 (a:Int) &&& BitVec.ofInt 32 (b:Int)).toNat:Int)=_
 rw [BitVec.ofInt_natCast,BitVec.ofInt_natCast,BitVec.toNat_and,BitVec.toNat_ofNat,BitVec.toNat_ofNat,Nat.mod_eq_of_lt (show a<2^32 from ha),Nat.mod_eq_of_lt (show b<2^32 from hb)]
 exact IntWalk.u32_in _ (by omega)
theorem xQ {a b:Nat} (ha:a<18446744073709551616) (hb:b<18446744073709551616):cf .xor .u64 (a:Int) (b:Int)=((a ^^^ b:Nat):Int):=by
 have h:=Nat.xor_lt_two_pow (n:=64) ha hb
 show IntKind.u64.wrap ((BitVec.ofInt 64 (a:Int) ^^^ BitVec.ofInt 64 (b:Int)).toNat:Int)=_
 rw [BitVec.ofInt_natCast,BitVec.ofInt_natCast,BitVec.toNat_xor,BitVec.toNat_ofNat,BitVec.toNat_ofNat,Nat.mod_eq_of_lt (show a<2^64 from ha),Nat.mod_eq_of_lt (show b<2^64 from hb)]
 exact IntWalk.u64_in _ (by omega)
theorem De {a b:Nat} (ha:a<256) (hb:b<256):cf .xor .u8 (a:Int) (b:Int)=((a ^^^ b:Nat):Int):=by
 have h:=Nat.xor_lt_two_pow (n:=8) ha hb
 show IntKind.u8.wrap ((BitVec.ofInt 8 (a:Int) ^^^ BitVec.ofInt 8 (b:Int)).toNat:Int)=_
 rw [BitVec.ofInt_natCast,BitVec.ofInt_natCast,BitVec.toNat_xor,BitVec.toNat_ofNat,BitVec.toNat_ofNat,Nat.mod_eq_of_lt (show a<2^8 from ha),Nat.mod_eq_of_lt (show b<2^8 from hb)]
 exact IntWalk.u8_in _ (by omega)
theorem iz (k:IntKind) (a n:Nat) (hn:n≤k.bits):j6 k (a:Int) (n:Int)=((a / 2^n:Nat):Int):=by
 unfold j6
 rw [Int.toNat_natCast,Nat.min_eq_left hn,Int.fdiv_eq_ediv_of_nonneg _ (by exact Int.pow_nonneg (by decide))]
 simp
theorem dh {n:Nat} (h:n<9223372036854775808):IntKind.i64.wrap (n:Int)=(n:Int):=IntWalk.i64_in _ (by omega)
theorem aN {n:Nat} (h:n<9223372036854775807):IntKind.i64.wrap ((n:Int)+1)=((n+1:Nat):Int):=by
 rw [IntWalk.i64_in _ (by omega)]
 omega
theorem j8 (a b:Nat):Int.tmod (a:Int) (b:Int)=((a%b:Nat):Int):=by
 rw [Int.tmod_eq_emod_of_nonneg (by omega)]
 simp
theorem iu (a b:Nat):Int.tdiv (a:Int) (b:Int)=((a / b:Nat):Int):=by
 rw [Int.tdiv_eq_ediv_of_nonneg (by omega)]
 simp
theorem zg {P:Program} {k:FuncId} {args:List Value} {w:World} {Q:Value→Prop} (H:aE P k args w.heap fun v h'=>Q v∧aG [old w.heap] h') :
  Calls P k args.toArray w fun e w'=>(∃ v,e=.returned v∧Q v)∧Below w.heap.size w w':=by
 refine Calls.mono (callsIn_wide.1 (H.2 w rfl)) ?_
 rintro e w' ⟨v,he,⟨hq,hs⟩,hsame⟩
 exact ⟨⟨v,he,hq⟩,hsame.os,hsame.tape,hsame.output,hs.oldSize,fun k hk=>hs.oldGet hk⟩
def zl (h0:Heap) (v:Value) (h':Heap):Prop:=v=.bool true∧aG [old h0] h'
theorem n9 {h0 h:Heap} {F:List aF} (H:aG (old h0::F) h):zl h0 (.bool true) h:=⟨rfl,H.dropTail (l:=[old h0])⟩
theorem Dw {P:Program} {k:FuncId} {args:List Value} {w:World} (H:aE P k args w.heap (zl w.heap)) :
  Calls P k args.toArray w fun e w'=>e=.returned (.bool true)∧Below w.heap.size w w':=
 (zg (Q:=fun v=>v=.bool true) H).mono fun e w' ⟨⟨v,he,hv⟩,hb⟩=>⟨by rw [he,hv],hb⟩
def nv (n:Nat):Value:=.int .u8 (n:Int)
theorem xR {x:Int} (h:(Lit.int .u16 x).wf=true):∃ n:Nat,x=(n:Int)∧n<65536:=by
 simp only [Lit.wf,ay,decide_eq_true_eq] at h
 have h0:(0:Int)≤x:=h.1
 have h1:x≤65535:=h.2
 exact ⟨x.toNat,by omega,by omega⟩
theorem vG:∀ (k:Nat) (l:List aF) (A:aF),l[k]? = some A→∃ r,xP k l=A::r
 | 0,a::l,A,h=>by simp at h; subst h; exact ⟨l,rfl⟩
 | 0,[],A,h=>by simp at h
 | k+1,[],A,h=>by simp at h
 | k+1,a::l,A,h=>by
   obtain ⟨r,hr⟩:=vG k l A (by simpa using h);exact ⟨a::r,by simp [xP,hr]⟩
theorem aG.pick {l:List aF} {h:Heap} (H:aG l h) {A:aF} {k:Nat} (hk:l[k]? = some A):∃ r,aG (A::r) h:=by
 obtain ⟨r,hr⟩:=vG k l A hk
 exact ⟨r,hr▸H.mv k⟩
theorem bm (a:Addr) (m n:Nat):(a.add m).add n=a.add (m+n):=by
 obtain ⟨b,o,sp⟩:=a
 unfold Addr.add
 by_cases h1:m=0
 · subst h1;simp
 · by_cases h2:n=0
   · subst h2;simp [h1]
   · simp [h1,h2];omega
theorem cv.sub {h:Heap} {a:Option Addr} {xs:List Value} (H:cv h a xs) (lo n mx:Nat) (hn:mx=lo→n=0):cv h (fG a lo mx 1) ((xs.drop lo).take n):=by
 unfold fG
 split
 · rename_i e;rw [hn e,take_zero]
   cases a with
   | none=>rfl
   | some a=>intro j v hv; cases hv
 · cases a with
   | none=>
     have:xs=[]:=H;subst this;simp [cv]
   | some a=>
     intro j v hv;rw [getElem?_take] at hv;split at hv
     · rw [getElem?_drop] at hv;have:=H _ _ hv;rw [Nat.mul_one];show bI h ((a.add lo).add j)=some v;rw [bm];exact this
     · cases hv
theorem cv.nilOr {h:Heap} {a:Option Addr} {xs:List Value} (H:cv h a xs) {i:Nat} {v:Value} (hi:xs[i]? = some v):∃ b,a=some b∧bI h (b.add i)=some v:=by
 cases a with
 | none=>
   have:xs=[]:=H;subst this;simp at hi
 | some a=>exact ⟨a,rfl,H i v hi⟩
theorem dI {a:Option Addr} {c sz lo hi mx:Nat} {K:Option Addr→Nat→Nat→Prop} (h1:lo≤hi) (h2:hi≤mx) (h3:mx≤c) (hK:K (fG a lo mx sz) (hi - lo) (mx - lo)):mX a c sz (lo:Int) (hi:Int) (mx:Int) K:=by
 refine ⟨by omega,by omega,by omega,by omega,?_⟩
 simpa using hK
theorem bj {a:Option Addr} {l i:Nat} {h:Heap} {xs:List Value} {v:Value} {K:Addr→Prop} (H:cv h a xs) (hl:xs.length=l) (hi:xs[i]? = some v) (hK:∀ b,a=some b→bI h (b.add i)=some v→K (b.add i)) :
  aO a l (i:Int) 1 K:=by
 obtain ⟨b,hb,hc⟩:=H.nilOr hi
 have:=(ak.1 hi).1
 refine ⟨b,hb,by omega,by omega,?_⟩
 rw [Int.toNat_natCast,Nat.mul_one]
 exact hK b hb hc
def nb (bs:List UInt8):List Nat:=bs.map UInt8.toNat
def B8 (l:List Nat):Prop:=∀ n∈l,n<256
theorem Fq (bs:List UInt8):B8 (nb bs):=fun b h=>by
 obtain ⟨u,_,rfl⟩:=List.mem_map.1 h
 exact u.toNat_lt
def sb (s:ByteArray):List Nat:=nb s.data.toList
theorem gv (s:ByteArray):B8 (sb s):=Fq _
theorem bE (s:ByteArray):(sb s).length=s.size:=by rw [sb,nb,aq]; rfl
theorem yq (s:ByteArray):s.data.toList.map bv=(sb s).map nv:=by rw [sb,nb,map_map]; rfl
def dW (ns:List Nat):ByteArray:=⟨(ns.map UInt8.ofNat).toArray⟩
theorem dx {ns:List Nat} (h:B8 ns):sb (dW ns)=ns:=by
 unfold sb dW nb
 simp only [map_map]
 conv=>rhs; rw [← List.map_id ns]
 apply map_congr_left
 intro n hn
 have:=h n hn
 simp [UInt8.toNat_ofNat']
 omega
theorem jL {s t:ByteArray} (h:sb s=sb t):s=t:=by
 have h2:s.data.toList=t.data.toList:=by
  have hi:∀ (a b:List UInt8),nb a=nb b→a=b:=by
   intro a
   induction a with
   | nil=>intro b hb; cases b with
     | nil=>rfl
     | cons x b=>cases hb
   | cons x a ih=>intro b hb; cases b with
     | nil=>cases hb
     | cons y b=>
       simp only [nb,map_cons,List.cons.injEq] at hb;rw [UInt8.toNat_inj.1 hb.1,ih b hb.2]
  exact hi _ _ h
 exact ByteArray.ext (Array.ext' h2)
theorem yH (s:ByteArray):dW (sb s)=s:=jL (dx (gv s))
theorem jr (s t:ByteArray):sb (s++t)=sb s++sb t:=by
 unfold sb nb
 rw [ByteArray.data_append,Array.toList_append,map_append]
theorem yp:sb .empty=[]:=rfl
theorem dR (s:ByteArray) (i j:Nat):sb (s.extract i j)=((sb s).drop i).take (j - i):=by
 unfold sb nb
 rw [ByteArray.data_extract,Array.toList_extract,List.extract_eq_take_drop,map_take,map_drop]
theorem gg (a b:ByteArray):dm a b=decide (sb a=sb b):=by
 unfold dm
 have e:∀ x:ByteArray,x.toList=x.data.toList:=fun x=>by simp [ByteArray.toList_eq]
 rw [e,e]
 by_cases h:sb a=sb b
 · have:=jL h;subst this;simp
 · have:¬ a.data.toList=b.data.toList:=fun he=>h (by unfold sb; rw [he]);have h3:¬ a.data=b.data:=fun he=>this (by rw [he]);simp [h,h3]
theorem nK {s:ByteArray} {i n:Nat} (hi:(sb s)[i]? = some n):bt s (i:Int)=(n:Int):=by
 unfold bt
 rw [Int.toNat_natCast]
 unfold sb nb at hi
 rw [List.getElem?_map] at hi
 cases hu:s.data.toList[i]? with
 | none=>rw [hu] at hi; cases hi
 | some u=>
   rw [hu] at hi;simp only [Option.map_some,Option.some.injEq] at hi;subst hi
   rfl
theorem fT {h:Heap} {a:Option Addr} {ns:List Nat} {l:Nat} (H:cv h a (ns.map nv)) (hl:ns.length=l) (h8:B8 ns):fF h a l (dW ns):=by
 cases a with
 | none=>
   have:ns.map nv=[]:=H;rw [map_eq_nil_iff] at this;subst this
   rfl
 | some a=>
   refine ⟨by rw [← bE,dx h8,hl],fun i hi=>H i _ ?_⟩;rw [List.getElem?_map,ai (by omega)];have e:(dW ns).data.toList=ns.map UInt8.ofNat:=rfl;have h9:=h8 _ (getElem_mem (l:=ns) (by omega:i<ns.length));rw [e,getD_eq_getElem?_getD,List.getElem?_map,ai (by omega)];simp only [Option.map_some,Option.getD_some,nv,Option.some.injEq,Value.int.injEq,true_and];simp [UInt8.toNat_ofNat'];omega
theorem uJ (ns:List Nat):∀ u∈ns.map nv,u.oneCell'=true:=by
 intro u hu
 obtain ⟨n,_,rfl⟩:=List.mem_map.1 hu
 rfl
theorem qd {P:Program} {h:Heap} {F:List aF} {t e:TypeId} {b l c:Nat} {cells:Array Value} {K:Value→Heap→Prop} (ht:P.underlying t=some (.slice e)) (he:P.underlying e=some (.int .u8))
  (H:aG (pt b (.cells cells e (0,0))::F) h) (hK:∀ h',aG (pt b (.cells cells e (cells.size,cells.size+1))::F) h'→K (.slice (some ⟨b,0,none⟩) l c) h') :
  bB P (Go.convert t t (.slice (some ⟨b,0,none⟩) l c)) h K:=by
 intro w hw
 subst hw
 have hb:=H.get
 have hsh:w.shape? b=some (e,cells.size):=by
  unfold World.shape?;rw [hb]
 refine ⟨.slice (some ⟨b,0,none⟩) l c,w.freeze ⟨b,cells.size,none⟩ 1,?_,?_,?_⟩
 · simp [convert,run_underlying ht,run_underlying he,markStringish,hsh,Result.andThen]
 · unfold World.freeze;rw [am (by decide)];exact ⟨rfl,rfl,rfl⟩
 · refine hK _ (H.upd _ ?_ ?_)
   · unfold World.freeze;rw [am (by decide)];show (w.heap.modify b _)[b]? = _;rw [Array.getElem?_modify];simp [hb]
   · intro k hk _;unfold World.freeze;rw [am (by decide)];show (w.heap.modify b _)[k]? = _;rw [Array.getElem?_modify];simp [Ne.symm hk]
def fR {α:Type} (E:α→Value→aF) (e:TypeId) (a:Option Addr) (l c:Nat) (xs:List α):aF:=
 pZ fun vs:List Value=>bP (lY (vs.length=xs.length)::aQ e 1 a l c vs::zipWith E xs vs)
section
variable {α:Type} {E:α→Value→aF} {e:TypeId} {a:Option Addr} {l c:Nat} {xs:List α} {F:List aF} {h:Heap}
theorem im (H:aG (fR E e a l c xs::F) h):∃ vs:List Value,vs.length=xs.length∧aG (aQ e 1 a l c vs::(zipWith E xs vs++F)) h:=by
 obtain ⟨vs,H⟩:=bD.1 H
 have H2:=H.open
 obtain ⟨h1,H3⟩:=cE.1 H2
 exact ⟨vs,h1,H3⟩
theorem mL {vs:List Value} (hl:vs.length=xs.length) (H:aG (aQ e 1 a l c vs::(zipWith E xs vs++F)) h):aG (fR E e a l c xs::F) h:=
 bD.2 ⟨vs,aG.shut (cE.2 ⟨hl,H⟩)⟩
theorem jv (E:α→Value→aF) (e:TypeId) (H:aG F h):aG (fR E e none 0 0 []::F) h:=
 mL (vs:=[]) rfl (bR e 1 H)
theorem me (H:aG (fR E e a l c xs::F) h):xs.length=l∧l≤c∧c≤maxLen:=by
 obtain ⟨vs,hl,H2⟩:=im H
 obtain ⟨h1,h2,h3⟩:=dA H2
 exact ⟨by rw [← hl,h1,Nat.mul_one],h2,h3⟩
theorem wH {P:Program} {t u ty:TypeId} {i:TypeInfo} {z v:Value} {a2:Option Addr} {x:α} {c2:Nat} {K:Value→Heap→Prop}
  (ht:P.underlying t=some (.slice e)) (hu:d8 P u=true) (hi:P.info? e=some i) (hz:i.zero=some z) (hsz:i.size=1) (hzs:z.cells.size=1) (hm:l+1≤9223372036854775807) (hb:(l+1)*i.bytes≤140737488355328)
  (H:aG (fR E e a l c xs::E x v::F) h) (hv:v.oneCell'=true) (hr:cv h a2 [v])
  (hK:∀ a' c' h',aG (fR E e a' (l+1) c' (xs++[x])::F) h'→K (.slice a' (l+1) c') h') :
  bB P (append_ #[t,u] ty #[.slice a l c,.slice a2 1 c2]) h K:=by
 obtain ⟨vs,hl,H2⟩:=im H
 have H3:aG (aQ e 1 a l c vs::(zipWith E xs vs++E x v::F)) h:=H2
 rw [← hsz] at H3
 refine lN ht hu hi hz (by rw [hzs,hsz]) (by omega) H3 (n:=1) (ys:=[v]) (bJ hr (by simp [hsz])) (by simpa using hv) hm hb (by unfold maxLen; omega) fun a' c' h' _ H4=>hK a' c' h' ?_
 rw [hsz] at H4
 refine mL (vs:=vs++[v]) (by simp [hl]) ?_
 rw [zipWith_append hl.symm]
 simpa using H4
end
def gj (P:Program) (e:TypeId) (b:Nat):Bool:=
 match P.info? e with
 | some i=>match i.zero with
   | some z=>Nat.beq z.cells.size 1&&Nat.beq i.size 1&&Nat.beq i.bytes b&&Nat.ble 1 b
   | none=>false
 | none=>false
theorem qU {P:Program} {e:TypeId} {b:Nat} (h:gj P e b=true):∃ i z,P.info? e=some i∧i.zero=some z∧z.cells.size=1∧i.size=1∧i.bytes=b∧1≤b:=by
 unfold gj at h
 split at h
 · rename_i i hi;split at h
   · rename_i z hz;simp only [ay] at h;exact ⟨i,z,hi,hz,Nat.eq_of_beq_eq_true h.1.1.1,Nat.eq_of_beq_eq_true h.1.1.2,Nat.eq_of_beq_eq_true h.1.2,Nat.le_of_ble_eq_true h.2⟩
   · cases h
 · cases h
theorem gr {P:Program} {h:Heap} {F:List aF} {a:Option Addr} {l c:Nat} {xs ys:List Value} {t u ty e:TypeId} {b:Nat} {x:Value} {n:Nat} {K:Value→Heap→Prop}
  (ht:P.underlying t=some (.slice e)) (hu:d8 P u=true) (hi:gj P e b=true)
  (H:aG (aQ e 1 a l c xs::F) h) (hx:rk P h 1 x n ys) (h1:∀ u∈ys,u.oneCell'=true) (hb:(l+n)*b≤140737488355328)
  (hK:∀ a' c' h',(a'=none→l+n=0)→aG (aQ e 1 a' (l+n) c' (xs++ys)::F) h'→K (.slice a' (l+n) c') h') :
  bB P (append_ #[t,u] ty #[.slice a l c,x]) h K:=by
 obtain ⟨i,z,e1,e2,e3,e4,e5,e6⟩:=qU hi
 subst e5
 have hle:l+n≤(l+n)*i.bytes:=Nat.le_mul_of_pos_right _ (by omega)
 refine lN ht hu e1 e2 (by rw [e3,e4]) (by omega) (by rw [e4]; exact H) (by rw [e4]; exact hx) h1 (by omega) hb (by unfold maxLen; omega) ?_
 rw [e4]
 exact hK
theorem CV {P:Program} {h:Heap} {F:List aF} {α:Type} {E:α→Value→aF} {a:Option Addr} {l c:Nat} {xs:List α} {t u ty e:TypeId} {b:Nat} {v:Value} {a2:Option Addr} {x:α} {c2:Nat} {K:Value→Heap→Prop}
  (ht:P.underlying t=some (.slice e)) (hu:d8 P u=true) (hi:gj P e b=true) (hb:(l+1)*b≤140737488355328)
  (H:aG (fR E e a l c xs::E x v::F) h) (hv:v.oneCell'=true) (hr:cv h a2 [v])
  (hK:∀ a' c' h',aG (fR E e a' (l+1) c' (xs++[x])::F) h'→K (.slice a' (l+1) c') h') :
  bB P (append_ #[t,u] ty #[.slice a l c,.slice a2 1 c2]) h K:=by
 obtain ⟨i,z,e1,e2,e3,e4,e5,e6⟩:=qU hi
 subst e5
 have hle:l+1≤(l+1)*i.bytes:=Nat.le_mul_of_pos_right _ (by omega)
 exact wH ht hu e1 e2 e4 e3 (by omega) hb H hv hr hK
theorem xg {P:Program} {h:Heap} {F:List aF} {a:Option Addr} {l c:Nat} {xs ys:List Nat} {t u ty e:TypeId} {x:Value} {n:Nat} {K:Value→Heap→Prop}
  (ht:P.underlying t=some (.slice e)) (hu:d8 P u=true) (hi:gj P e 1=true)
  (H:aG (aQ e 1 a l c (xs.map nv)::F) h) (hx:rk P h 1 x n (ys.map nv)) (hb:l+n≤140737488355328)
  (hK:∀ a' c' h',(a'=none→l+n=0)→aG (aQ e 1 a' (l+n) c' ((xs++ys).map nv)::F) h'→K (.slice a' (l+n) c') h') :
  bB P (append_ #[t,u] ty #[.slice a l c,x]) h K:=
 gr ht hu hi H hx (uJ ys) (by omega) fun a' c' h' h0 H'=>hK a' c' h' h0 (by rw [map_append]; exact H')
theorem wv {P:Program} {h:Heap} {a:Option Addr} {n c:Nat} {ys:List Nat} (hr:cv h a (ys.map nv)) (hl:ys.length=n):rk P h 1 (.slice a n c) n (ys.map nv):=
 bJ hr (by simp [hl])
theorem pF {P:Program} {h:Heap} {F:List aF} {qo dst e:TypeId} {s:ByteArray} {K:Value→Heap→Prop} (hs:P.underlying qo=some .string) (hd:P.underlying dst=some (.slice e)) (he:P.underlying e=some (.int .u8))
  (hz:s.size≤maxLen) (H:aG F h) (hK:∀ b c h',aG (aQ e 1 (some ⟨b,0,none⟩) s.size c ((sb s).map nv)::F) h'→K (.slice (some ⟨b,0,none⟩) s.size c) h') :
  bB P (Go.convert qo dst (.string s)) h K:=
 tN hs hd he hz H fun b c h' H'=>hK b c h' (by rw [← yq]; exact H')
theorem cv.old {h h':Heap} {F:List aF} {a:Option Addr} {xs:List Value} (H:cv h a xs) (hs:aG (old h::F) h'):cv h' a xs:=by
 cases a with
 | none=>exact H
 | some a=>exact fun j v hv=>hs.oldCell (H j v hv)
theorem Dr {a b:Nat} (ha:a<4294967296) (hb:b<4294967296):cf .or .u32 (a:Int) (b:Int)=((a ||| b:Nat):Int):=by
 have h:=Nat.or_lt_two_pow (n:=32) ha hb
 show IntKind.u32.wrap ((BitVec.ofInt 32 (a:Int) ||| BitVec.ofInt 32 (b:Int)).toNat:Int)=_
 rw [BitVec.ofInt_natCast,BitVec.ofInt_natCast,BitVec.toNat_or,BitVec.toNat_ofNat,BitVec.toNat_ofNat,Nat.mod_eq_of_lt (show a<2^32 from ha),Nat.mod_eq_of_lt (show b<2^32 from hb)]
 exact IntWalk.u32_in _ (by omega)
theorem rW (a:Nat) {b i:Nat} (hb:b<2^i):(2^i*a) ||| b=2^i*a+b:=(Nat.two_pow_add_eq_or_of_lt hb a).symm
theorem yk {x n:Nat} (hn:n≤32) (h:x*2^n<4294967296):nO .u32 (x:Int) (n:Int)=((x*2^n:Nat):Int):=by
 unfold nO
 rw [Int.toNat_natCast,show min n IntKind.u32.bits=n from Nat.min_eq_left hn,show (x:Int)*2^n=((x*2^n:Nat):Int) by simp]
 exact IntWalk.u32_in _ (by omega)
theorem DR {x0 x1 x2 x3:Nat} (h0:x0<256) (h1:x1<256) (h2:x2<256) (h3:x3<256) :
  cf .or .u32 (cf .or .u32 (cf .or .u32 (nO .u32 (wrap .u32 (x0:Int)) 24) (nO .u32 (wrap .u32 (x1:Int)) 16)) (nO .u32 (wrap .u32 (x2:Int)) 8)) (wrap .u32 (x3:Int))
   = ((x0*16777216+x1*65536+x2*256+x3:Nat):Int):=by
 rw [IntWalk.u32_in (x0:Int) (by omega),IntWalk.u32_in (x1:Int) (by omega),IntWalk.u32_in (x2:Int) (by omega),IntWalk.u32_in (x3:Int) (by omega)]
 rw [show (24:Int)=((24:Nat):Int) from rfl,show (16:Int)=((16:Nat):Int) from rfl,show (8:Int)=((8:Nat):Int) from rfl]
 rw [yk (by decide) (by omega),yk (by decide) (by omega),yk (by decide) (by omega)]
 rw [Dr (by omega) (by omega),show x0*2^24=2^24*x0 by omega,rW x0 (b:=x1*2^16) (by omega)]
 rw [Dr (by omega) (by omega),show 2^24*x0+x1*2^16=2^16*(256*x0+x1) by omega,rW _ (b:=x2*2^8) (by omega)]
 rw [Dr (by omega) (by omega),show 2^16*(256*x0+x1)+x2*2^8=2^8*(65536*x0+256*x1+x2) by omega,rW _ (b:=x3) (by omega)]
theorem fu (n:Nat):wrap .u8 (n:Int)=((n%256:Nat):Int):=by
 rw [IntKind.wrap_u8]
 omega
theorem A4 {x y:Int} {m n:Nat} (hx:x=m) (hy:y=n):(x==y)=decide (m=n):=by
 subst hx hy
 by_cases h:m=n
 · subst h; simp
 · have:¬ ((m:Int)=(n:Int)):=by omega
   simp [h,this]
theorem FM (m n:Nat):((m:Int)==(n:Int))=decide (m=n):=A4 rfl rfl
theorem A5 (m n:Nat):((m:Int)!=(n:Int))=decide (m≠n):=by
 rw [bne,FM]
 simp
theorem kL {P:Program} {h:Heap} {F:List aF} {T k e:TypeId} {m:Nat} {es:Array MapEntry} {clock:Nat} {K:Value→Heap→Prop} (hT:P.underlying T=some (.map k e)) (H:aG F h) (hm:h[m]? = some (.map es clock))
  (hK:∀ r h',aG (pt r (.mapIter (some m) clock #[] clock)::F) h'→K (.pointer (some ⟨r,0,none⟩)) h'):bB P (Instr.range T (.map (some m))) h K:=by
 intro w hw
 subst hw
 exact ⟨_,_,run_range_map w T k e m es clock hT hm,⟨rfl,rfl,rfl⟩,hK _ _ (H.push _)⟩
theorem oW {P:Program} {h:Heap} {F:List aF} {ty:TypeId} {r m since c0 clock:Nat} {seen:Array Nat} {es:Array MapEntry} {K:Value→Heap→Prop}
  (H:aG (pt r (.mapIter (some m) since seen c0)::F) h) (hm:h[m]? = some (.map es clock)) (hold:∀ x∈es.toList,x.born<since) (hsc:since≤c0)
  (hEnd:(leftOf es seen).size=0→K (.tuple #[.bool false]) h)
  (hStep:∀ e∈(leftOf es seen).toList,∀ h',aG (pt r (.mapIter (some m) since (seen.push e.born) clock)::F) h'→K (.tuple #[.bool true,e.key,e.val]) h') :
  bB P (Instr.next (.pointer (some ⟨r,0,none⟩)) false ty) h K:=by
 intro w hw
 subst hw
 rcases run_next_at (P:=P) w ty r m since c0 seen es clock H.get hm hold hsc with ⟨h0,hrun⟩ | ⟨e,he,w1,hal,hrun⟩
 · exact ⟨_,_,hrun,.refl w,hEnd h0⟩
 · have hh:w1.heap=w.heap:=by rcases hal with rfl | rfl <;> rfl
   have hs:fH w w1:=by rcases hal with rfl | rfl <;> exact ⟨rfl,rfl,rfl⟩
   refine ⟨_,_,hrun,hs.trans ⟨rfl,rfl,rfl⟩,hStep e he _ ?_⟩;have:=H.set (.mapIter (some m) since (seen.push e.born) clock);rw [← hh] at this;exact this
theorem mV {P:Program} {h:Heap} {F:List aF} {r m since clock:Nat} {seen:Array Nat} {es:Array MapEntry} {e:MapEntry} {K:Value→Heap→Prop}
  (H:aG (pt r (.mapIter (some m) since (seen.push e.born) clock)::F) h) (hm:h[m]? = some (.map es clock)) (he:e∈es.toList) (hn:(es.toList.map (·.born)).Nodup)
  (hK:K (.tuple #[e.key,e.val]) h):bB P (Instr.entry (.pointer (some ⟨r,0,none⟩))) h K:=by
 intro w hw
 subst hw
 exact ⟨_,_,run_entry_at w r m since seen es clock e H.get hm he hn,.refl w,hK⟩
open Go Go.RowKit Go.MapKept
structure pH (κ:Type) where
 enc:κ→Value
 desc:TypeDesc
 inj:∀ a b,enc a=enc b→a=b
 isKey:∀ a,IsKey desc (enc a)
def aS:pH ByteArray:=⟨fun s=>.string s,.string,fun a b h=>by cases h; rfl,fun _=>trivial⟩
section
variable {κ:Type}
def ft (E:pH κ) (es:Array MapEntry) (clock:Nat) (m:List (κ×Value)):Prop:=
 Stamped es clock∧es.toList.map (fun e=>(e.key,e.val))=m.map fun p=>(E.enc p.1,p.2)
def bT (E:pH κ) (b:Nat) (m:List (κ×Value)):aF:=fun r=>∃ es clock,ft E es clock m∧pt b (.map es clock) r
theorem fZ {E:pH κ} {b:Nat} {m:List (κ×Value)} {F:List aF} {h:Heap} (H:aG (bT E b m::F) h):∃ es clock,ft E es clock m∧aG (pt b (.map es clock)::F) h:=by
 obtain ⟨r,⟨r1,r2,hd,e,⟨es,clock,hm,hp⟩,h2⟩,hs⟩:=H
 exact ⟨es,clock,hm,r,⟨r1,r2,hd,e,hp,h2⟩,hs⟩
theorem ey {E:pH κ} {b:Nat} {m:List (κ×Value)} {F:List aF} {h:Heap} {es:Array MapEntry} {clock:Nat} (hm:ft E es clock m) (H:aG (pt b (.map es clock)::F) h):aG (bT E b m::F) h:=
 H.imp fun r hr=>⟨es,clock,hm,hr⟩
theorem tf (E:pH κ) {b:Nat} {F:List aF} {h:Heap} (H:aG (pt b (.map #[] 0)::F) h):aG (bT E b []::F) h:=ey ⟨stamped_empty 0,rfl⟩ H
variable {E:pH κ} {es:Array MapEntry} {clock:Nat} {m:List (κ×Value)}
theorem ft.key (hm:ft E es clock m):∀ x∈es.toList,IsKey E.desc x.key:=by
 intro x hx
 have:(x.key,x.val)∈es.toList.map (fun e=>(e.key,e.val)):=List.mem_map.2 ⟨x,hx,rfl⟩
 rw [hm.2] at this
 obtain ⟨p,_,hp⟩:=List.mem_map.1 this
 have:x.key=E.enc p.1:=(congrArg Prod.fst hp).symm
 rw [this]
 exact E.isKey _
theorem ft.at (hm:ft E es clock m) {j:Nat} {e:MapEntry} (hj:es.toList[j]? = some e):∃ p,m[j]? = some p∧e.key=E.enc p.1∧e.val=p.2:=by
 have h1:(es.toList.map (fun e=>(e.key,e.val)))[j]? = some (e.key,e.val):=by rw [List.getElem?_map,hj]; rfl
 rw [hm.2,List.getElem?_map] at h1
 cases hp:m[j]? with
 | none=>rw [hp] at h1; cases h1
 | some p=>
   rw [hp] at h1;simp only [Option.map_some,Option.some.injEq,Prod.mk.injEq] at h1;exact ⟨p,rfl,h1.1.symm,h1.2.symm⟩
theorem ft.nodup (hm:ft E es clock m):(m.map (·.1)).Nodup:=by
 have h3:=hm.1.2.2
 have e:es.toList.map (·.key)=(m.map (·.1)).map E.enc:=by
  have:=congrArg (List.map Prod.fst) hm.2;simpa [map_map,Function.comp_def] using this
 rw [e] at h3
 exact (List.pairwise_map.1 h3).imp fun h e=>h (by rw [e])
theorem ft.size (hm:ft E es clock m):es.size=m.length:=by
 have:=congrArg List.length hm.2
 simpa using this
variable [DecidableEq κ]
def pY (m:List (κ×Value)) (k:κ):Option Value:=(m.find? fun p=>decide (p.1=k)).map (·.2)
def lR (m:List (κ×Value)) (k:κ) (v:Value):List (κ×Value):=
 if m.any (fun p=>decide (p.1=k)) then m.map (fun p=>if p.1=k then (k,v) else p) else m++[(k,v)]
def jC (m:List (κ×Value)) (k:κ):List (κ×Value):=m.filter fun p => !decide (p.1=k)
theorem ft.find (hm:ft E es clock m) (k:κ):∃ f,Instr.findNow E.desc (E.enc k) es.toList 0=some f∧f.map (·.2)=pY m k∧
  ((f=none∧(∀ p∈m,p.1≠k)∧∀ x∈es.toList,x.key≠E.enc k)∨∃ j e v,f=some (j,v)∧es.toList[j]? = some e∧e.key=E.enc k∧m[j]? = some (k,v)):=by
 rcases findNow_spec (E.isKey k) es.toList 0 hm.key with ⟨h1,h2⟩ | ⟨j,e,h1,h2,h3⟩
 · have hno:∀ p∈m,p.1≠k:=fun p hp hk=>by
    have:(E.enc p.1,p.2)∈es.toList.map (fun e=>(e.key,e.val)):=by rw [hm.2]; exact List.mem_map.2 ⟨p,hp,rfl⟩
    obtain ⟨x,hx,he⟩:=List.mem_map.1 this;exact h2 x hx (by have:=congrArg Prod.fst he; rw [← hk]; exact this)
   refine ⟨none,h1,?_,.inl ⟨rfl,hno,h2⟩⟩;have:m.find? (fun p=>decide (p.1=k))=none:=List.find?_eq_none.2 fun p hp=>by simpa using hno p hp
   simp [pY,this]
 · obtain ⟨p,hp,hk,hv⟩:=hm.at h2;have hpk:p.1=k:=E.inj _ _ (by rw [← hk,h3]);rw [Nat.zero_add] at h1;refine ⟨some (j,e.val),h1,?_,.inr ⟨j,e,e.val,rfl,h2,h3,by rw [hp,hv,← hpk]⟩⟩;have hf:m.find? (fun q=>decide (q.1=k))=some p:=by
    have hmem:=aj hp;have hn:=hm.nodup;clear hp hm h1 h2 h3
    induction m with
    | nil=>cases hmem
    | cons q m ih=>
      simp only [map_cons,nodup_cons] at hn
      rcases aA.1 hmem with rfl | hmem
      · simp [find?_cons,hpk]
      · have hne:q.1≠k:=fun e=>hn.1 (by rw [e,← hpk]; exact List.mem_map.2 ⟨p,hmem,rfl⟩);simp only [find?_cons,hne,decide_false];exact ih hmem hn.2
   rw [pY,hf];simp [hv]
theorem lH {α β:Type} (g:α→β) (f:α→α) (f':β→β) (hg:∀ x,g (f x)=f' (g x)):∀ (l:List α) (j:Nat),(l.modify j f).map g=(l.map g).modify j f'
 | [],j=>by simp
 | x::l,0=>by simp [hg]
 | x::l,j+1=>by simp [lH g f f' hg l j]
theorem mP {α β:Type} (g:α→β):∀ (l:List α) (j:Nat),(l.eraseIdx j).map g=(l.map g).eraseIdx j
 | [],j=>by simp
 | x::l,0=>by simp
 | x::l,j+1=>by simp [mP g l j]
theorem om:∀ (m:List (κ×Value)) (j:Nat) (k:κ) (v u:Value),(m.map (·.1)).Nodup→m[j]? = some (k,u)→m.modify j (fun p=>(k,v))=m.map fun p=>if p.1=k then (k,v) else p
 | [],j,k,v,u,_,h=>by simp at h
 | p::m,0,k,v,u,hn,h=>by
   simp only [getElem?_cons_zero,Option.some.injEq] at h;subst h;simp only [map_cons,nodup_cons] at hn;simp only [List.modify_zero_cons,map_cons,if_true,List.cons.injEq,true_and]
   symm
   conv=>rhs; rw [← List.map_id m]
   apply map_congr_left;intro q hq;have:q.1≠k:=fun e=>hn.1 (List.mem_map.2 ⟨q,hq,e⟩);simp [this]
 | p::m,j+1,k,v,u,hn,h=>by
   simp only [map_cons,nodup_cons] at hn;have hj:m[j]? = some (k,u):=by simpa using h
   have hp:p.1≠k:=fun e=>hn.1 (by rw [e]; exact List.mem_map.2 ⟨(k,u),aj hj,rfl⟩);simp only [List.modify_succ_cons,map_cons,hp,if_false];rw [om m j k v u hn.2 hj]
theorem rb:∀ (m:List (κ×Value)) (j:Nat) (k:κ) (u:Value),(m.map (·.1)).Nodup→m[j]? = some (k,u)→m.eraseIdx j=jC m k
 | [],j,k,u,_,h=>by simp at h
 | p::m,0,k,u,hn,h=>by
   simp only [getElem?_cons_zero,Option.some.injEq] at h;subst h;simp only [map_cons,nodup_cons] at hn;simp only [List.eraseIdx_cons_zero,jC,filter_cons,decide_true,aB]
   symm
   apply List.filter_eq_self.2;intro q hq;have:q.1≠k:=fun e=>hn.1 (List.mem_map.2 ⟨q,hq,e⟩);simp [this]
 | p::m,j+1,k,u,hn,h=>by
   simp only [map_cons,nodup_cons] at hn;have hj:m[j]? = some (k,u):=by simpa using h
   have hp:p.1≠k:=fun e=>hn.1 (by rw [e]; exact List.mem_map.2 ⟨(k,u),aj hj,rfl⟩);have:=rb m j k u hn.2 hj;simp only [List.eraseIdx_cons_succ,jC,filter_cons,hp,decide_false,aC,if_true];rw [this]
   rfl
end
theorem gM {κ:Type} [DecidableEq κ] {P:Program} {E:pH κ} {T kt et:TypeId} {b:Nat} {m:List (κ×Value)} {F:List aF} {h:Heap} {k:κ} {v:Value} {K:Heap→Prop}
  (hT:P.underlying T=some (.map kt et)) (hd:P.underlying kt=some E.desc) (H:aG (bT E b m::F) h) (hK:∀ h',aG (bT E b (lR m k v)::F) h'→K h') :
  qh P (Instr.mapUpdate T (.map (some b)) (E.enc k) v) h K:=by
 intro w hw
 subst hw
 obtain ⟨es,clock,hm,H2⟩:=fZ H
 have hb:=H2.get
 obtain ⟨f,hf,hl,hcase⟩:=hm.find k
 rcases hcase with ⟨rfl,hno,hnk⟩ | ⟨j,e,u,rfl,hj,hek,hmj⟩
 · refine ⟨{ w with heap:=w.heap.setIfInBounds b (.map (es.push { key:=E.enc k,val:=v,born:=clock }) (clock+1)) },?_,⟨rfl,rfl,rfl⟩,hK _ (ey (es:=es.push { key:=E.enc k,val:=v,born:=clock }) (clock:=clock+1) ⟨stamped_push hm.1 hnk,?_⟩ (H2.set _))⟩
   · simp [Instr.mapUpdate,run_underlying hT,MapKept.run_getObj_map hb,MapKept.run_checkKey hd (E.isKey k),MapKept.run_findKey hd hf,MapKept.run_setObj_map _ hb,Result.andThen]
   · have hany:m.any (fun p=>decide (p.1=k))=false:=by
      rw [any_eq_false];intro p hp;simpa using hno p hp
     simp [lR,hany,hm.2]
 · have hj':es[j]? = some e:=by simpa using hj
   have hkey:∀ e',es[j]? = some e'→({ e' with key:=E.enc k,val:=v }:MapEntry).key=e'.key:=fun e' he'=>by rw [hj'] at he'; cases he'; exact hek.symm
   refine ⟨{ w with heap:=w.heap.setIfInBounds b (.map (es.modify j fun e=>{ e with key:=E.enc k,val:=v }) clock) },?_,⟨rfl,rfl,rfl⟩,hK _ (ey (es:=es.modify j fun e=>{ e with key:=E.enc k,val:=v }) (clock:=clock) ⟨stamped_modify hm.1 _ _ (fun _ _=>rfl) (fun e' _ he'=>hkey e' he'),?_⟩ (H2.set _))⟩
   · simp [Instr.mapUpdate,run_underlying hT,MapKept.run_getObj_map hb,MapKept.run_checkKey hd (E.isKey k),MapKept.run_findKey hd hf,hj',hek,MapKept.run_keyThatStays (E.isKey k),MapKept.run_setObj_map _ hb,Result.andThen]
   · have hany:m.any (fun p=>decide (p.1=k))=true:=by
      rw [any_eq_true];exact ⟨(k,u),aj hmj,by simp⟩
     rw [Array.toList_modify,lH (fun e:MapEntry=>(e.key,e.val)) _ (fun _=>(E.enc k,v)) (fun _=>rfl),hm.2];simp only [lR,hany,if_true];rw [← om m j k v u hm.nodup hmj,lH (fun p:κ×Value=>(E.enc p.1,p.2)) _ (fun _=>(E.enc k,v)) (fun _=>rfl)]
theorem pC {κ:Type} [DecidableEq κ] {P:Program} {E:pH κ} {T T2 kt et ty:TypeId} {b:Nat} {m:List (κ×Value)} {F:List aF} {h:Heap} {k:κ} {K:Value→Heap→Prop}
  (hT:P.underlying T=some (.map kt et)) (hd:P.underlying kt=some E.desc) (H:aG (bT E b m::F) h) (hK:∀ h',aG (bT E b (jC m k)::F) h'→K (.tuple #[]) h') :
  bB P (Builtin.delete_ #[T,T2] ty #[.map (some b),E.enc k]) h K:=by
 intro w hw
 subst hw
 obtain ⟨es,clock,hm,H2⟩:=fZ H
 have hb:=H2.get
 obtain ⟨f,hf,hl,hcase⟩:=hm.find k
 rcases hcase with ⟨rfl,hno,hnk⟩ | ⟨j,e,u,rfl,hj,hek,hmj⟩
 · refine ⟨.tuple #[],{ w with heap:=w.heap.setIfInBounds b (.map es clock) },?_,⟨rfl,rfl,rfl⟩,hK _ (ey (es:=es) (clock:=clock) ⟨hm.1,?_⟩ (H2.set _))⟩
   · simp [Builtin.delete_,run_underlying hT,MapKept.run_getObj_map hb,MapKept.run_checkKey hd (E.isKey k),MapKept.run_findKey hd hf,MapKept.run_setObj_map _ hb,Result.andThen]
   · have:jC m k=m:=List.filter_eq_self.2 fun p hp=>by simpa using hno p hp
     rw [this];exact hm.2
 · have hjl:j<es.size:=by
    have:=(ak.1 hj).1;simpa using this
   refine ⟨.tuple #[],{ w with heap:=w.heap.setIfInBounds b (.map (es.eraseIdxIfInBounds j) clock) },?_,⟨rfl,rfl,rfl⟩,hK _ (ey (es:=es.eraseIdxIfInBounds j) (clock:=clock) ⟨stamped_erase hm.1 _,?_⟩ (H2.set _))⟩
   · simp [Builtin.delete_,run_underlying hT,MapKept.run_getObj_map hb,MapKept.run_checkKey hd (E.isKey k),MapKept.run_findKey hd hf,MapKept.run_setObj_map _ hb,Result.andThen]
   · rw [← rb m j k u hm.nodup hmj];have e1:(es.eraseIdxIfInBounds j).toList=es.toList.eraseIdx j:=by
      unfold Array.eraseIdxIfInBounds;rw [dif_pos hjl,Array.toList_eraseIdx]
     rw [e1,mP,hm.2,mP]
theorem uZ {l:List MapEntry} {p:MapEntry→Bool} {e:MapEntry} (hn:(l.map (·.born)).Nodup) (he:e∈l) (hp:p e=true) :
  (e::l.filter fun x=>p x && !decide (x.born=e.born)).Perm (l.filter p):=by
 induction l with
 | nil=>cases he
 | cons x l ih=>
   simp only [map_cons,nodup_cons] at hn
   rcases aA.1 he with rfl | he
   · have h1:l.filter (fun x=>p x && !decide (x.born=e.born))=l.filter p:=by
      apply List.filter_congr;intro y hy;have:y.born≠e.born:=fun h=>hn.1 (by rw [← h]; exact List.mem_map.2 ⟨y,hy,rfl⟩);simp [this]
     simp only [filter_cons,hp,Bool.true_and,decide_true,aB,if_true];rw [h1];exact .refl _
   · have hne:x.born≠e.born:=fun h=>hn.1 (by rw [h]; exact List.mem_map.2 ⟨e,he,rfl⟩);have ih':=ih hn.2 he;simp only [filter_cons,hne,decide_false,aC,Bool.and_true]
     cases hpx:p x with
     | true=>
       simp only [if_true];exact (List.Perm.swap _ _ _).trans (ih'.cons x)
     | false=>simpa using ih'
theorem nC {es:Array MapEntry} {seen:Array Nat} {e:MapEntry} (hn:(es.toList.map (·.born)).Nodup) (he:e∈(leftOf es seen).toList) :
  (e::(leftOf es (seen.push e.born)).toList).Perm (leftOf es seen).toList:=by
 unfold leftOf at he ⊢
 simp only [Array.toList_filter,mem_filter] at he ⊢
 have h1:=uZ (p:=fun x => !seen.contains x.born) hn he.1 he.2
 have h2:es.toList.filter (fun x => !(seen.push e.born).contains x.born)=es.toList.filter (fun x => !seen.contains x.born && !decide (x.born=e.born)):=by
  apply List.filter_congr;intro y _;simp [Array.contains_push,eq_comm]
 rw [h2]
 exact h1
structure dV (es:Array MapEntry) (seen:Array Nat) (done:List MapEntry):Prop where
 perm:(done++(leftOf es seen).toList).Perm es.toList
theorem dV.start (es:Array MapEntry):dV es #[] []:=⟨by simp only [nil_append,leftOf,Array.toList_filter]; rw [List.filter_eq_self.2 (by simp)]⟩
theorem dV.step {es:Array MapEntry} {seen:Array Nat} {done:List MapEntry} {e:MapEntry} (h:dV es seen done) (hn:(es.toList.map (·.born)).Nodup) (he:e∈(leftOf es seen).toList):dV es (seen.push e.born) (done++[e]):=by
 refine ⟨?_⟩
 have h1:=nC hn he
 rw [append_assoc]
 exact (List.Perm.append_left done (by simpa using h1)).trans h.perm
theorem dV.fin {es:Array MapEntry} {seen:Array Nat} {done:List MapEntry} (h:dV es seen done) (h0:(leftOf es seen).size=0):done.Perm es.toList:=by
 have:=h.perm
 rw [Array.eq_empty_of_size_eq_zero h0] at this
 simpa using this
theorem dV.less {es:Array MapEntry} {seen:Array Nat} {e:MapEntry} (hn:(es.toList.map (·.born)).Nodup) (he:e∈(leftOf es seen).toList):(leftOf es (seen.push e.born)).size<(leftOf es seen).size:=by
 have:=(nC hn he).length_eq
 simp only [ar,Array.length_toList] at this
 omega
theorem dV.mem {es:Array MapEntry} {seen:Array Nat} {e:MapEntry} (he:e∈(leftOf es seen).toList):e∈es.toList:=by
 unfold leftOf at he
 simp only [Array.toList_filter,mem_filter] at he
 exact he.1
def dS (p:Addr) (h:Heap):Nat:=
 match h[p.block]? with
 | some (.mapIter (some m) _ seen _)=>match h[m]? with
   | some (.map es _)=>(leftOf es seen).size
   | _=>0
 | _=>0
theorem qI:∀ (i:Nat) (L F:List aF) (A:aF),L[i]? = some A→xP i (L++F)=A::(L.eraseIdx i++F)
 | 0,[],F,A,h=>by simp at h
 | 0,a::L,F,A,h=>by simp at h; subst h; rfl
 | i+1,[],F,A,h=>by simp at h
 | i+1,a::L,F,A,h=>by
   have:=qI i L F A (by simpa using h);simp [xP,this]
theorem rj:∀ (i:Nat) (L F:List aF) (A:aF),i<L.length→FL i (A::(L.eraseIdx i++F))=L.set i A++F
 | 0,[],F,A,h=>by simp at h
 | 0,a::L,F,A,h=>rfl
 | i+1,[],F,A,h=>by simp at h
 | i+1,a::L,F,A,h=>by
   have:=rj i L F A (by simpa using h);simp only [List.eraseIdx_cons_succ,cons_append,FL,List.set_cons_succ,this]
theorem aG.focus {L F:List aF} {h:Heap} {i:Nat} {A:aF} (H:aG (L++F) h) (hA:L[i]? = some A):aG (A::(L.eraseIdx i++F)) h:=by
 have:=H.mv i
 rwa [qI i L F A hA] at this
theorem aG.unfocus {L F:List aF} {h:Heap} {i:Nat} {A:aF} (hi:i<L.length) (H:aG (A::(L.eraseIdx i++F)) h):aG (L.set i A++F) h:=by
 have:=H.bk i
 rwa [rj i L F A hi] at this
theorem pn {α β:Type} {E:α→β→aF} {xs:List α} {ys:List β} {F:List aF} {h:Heap} {i:Nat} {x:α} {y:β} (H:aG (zipWith E xs ys++F) h) (hx:xs[i]? = some x) (hy:ys[i]? = some y) :
  aG (E x y::((zipWith E xs ys).eraseIdx i++F)) h:=
 H.focus (by rw [getElem?_zipWith,hx,hy])
theorem ng {α β γ:Type} (E:α→β→γ):∀ (xs:List α) (ys:List β) (i:Nat) (x:α) (y:β),xs[i]? = some x→i<ys.length→(zipWith E xs ys).set i (E x y)=zipWith E xs (ys.set i y)
 | [],ys,i,x,y,h,_=>by simp at h
 | a::xs,[],i,x,y,h,hl=>by simp at hl
 | a::xs,b::ys,0,x,y,h,hl=>by simp at h; subst h; simp
 | a::xs,b::ys,i+1,x,y,h,hl=>by
   have:=ng E xs ys i x y (by simpa using h) (by simpa using hl);simp [this]
theorem sM {α β:Type} {E:α→β→aF} {xs:List α} {ys:List β} {F:List aF} {h:Heap} {i:Nat} {x:α} {y:β} (hx:xs[i]? = some x) (hi:i<ys.length) (H:aG (E x y::((zipWith E xs ys).eraseIdx i++F)) h) :
  aG (zipWith E xs (ys.set i y)++F) h:=by
 have hl:i<(zipWith E xs ys).length:=by
  have:=(ak.1 hx).1;rw [length_zipWith];omega
 have:=H.unfocus hl
 rwa [ng E xs ys i x y hx hi] at this
def Av:List Nat→List aF→List aF
 | [],_=>[]
 | k::ks,l=>match xP k l with
   | []=>[]
   | A::r=>A::Av ks r
theorem sU:∀ (ks:List Nat) (l:List aF) (r:eL),ie l r→∃ r',(∀ b x,r' b=some x→r b=some x)∧ie (Av ks l) r'
 | [],l,r,_=>⟨fun _=>none,fun b x h=>by simp at h,fun _=>rfl⟩
 | k::ks,l,r,h=>by
   have h2:=rL k l r h;unfold Av
   cases he:xP k l with
   | nil=>exact ⟨fun _=>none,fun b x h=>by simp at h,fun _=>rfl⟩
   | cons A t=>
     rw [he] at h2;obtain ⟨r1,r2,hd,rfl,h1,h3⟩:=h2;obtain ⟨r2',hs,h4⟩:=sU ks t r2 h3;refine ⟨cz r1 r2',fun b x hx=>?_,r1,r2',fun b x y hx hy=>hd b x y hx (hs b y hy),rfl,h1,h4⟩;unfold cz at hx ⊢
     cases hr:r1 b with
     | some z=>rw [hr] at hx; exact hx
     | none=>rw [hr] at hx; exact hs b x hx
def yw:Nat→List Nat→List Nat
 | 0,_=>[]
 | _,[]=>[]
 | f+1,k::ks=>k::yw f (ks.map fun j=>bif Nat.blt k j then j - 1 else j)
theorem aG.ordT (n:Nat) (ks:List Nat) {l:List aF} {h:Heap} (H:aG l h):aG (Av (yw ks.length ks) (l.take n)++l.drop n) h:=by
 obtain ⟨r,hr,hs⟩:=H
 rw [← take_append_drop n l] at hr
 obtain ⟨r1,r2,hd,rfl,ha,hb⟩:=bQ.1 hr
 obtain ⟨r',h1,h2⟩:=sU (yw ks.length ks) (l.take n) r1 ha
 refine ⟨cz r' r2,bQ.2 ⟨r',r2,fun b x y hx hy=>hd b x y (h1 b x hx) hy,rfl,h2,hb⟩,fun b x hx=>hs b x ?_⟩
 unfold cz at hx ⊢
 cases hr':r' b with
 | some z=>rw [hr'] at hx; rw [h1 b z hr']; exact hx
 | none=>
   rw [hr'] at hx
   cases hr1:r1 b with
   | none=>exact hx
   | some z=>
     have:=(hd b z x hr1 hx).1;simp only [this]
theorem aG.rest (n:Nat) {l:List aF} {h:Heap} (H:aG l h):aG (l.drop n) h:=by
 obtain ⟨r,hr,hs⟩:=H
 rw [← take_append_drop n l] at hr
 obtain ⟨r1,r2,hd,rfl,_,hb⟩:=bQ.1 hr
 exact ⟨r2,hb,fun b x hx=>hs b x (gR hd hx)⟩
theorem gH {α:Type} (g:α→α) (l:List α) (i j:Nat):(l.modify i g)[j]? = (l[j]?).map fun a=>if i=j then g a else a:=by
 rw [List.getElem?_modify]
 cases l[j]? with
 | none=>rfl
 | some a=>by_cases h:i=j <;> simp [h]
theorem jp {α:Type} {l:List α} {i:Nat} {x:α} (h:l[i]? = some x):l.set i x=l:=by
 apply List.ext_getElem?
 intro j
 rw [getElem?_set]
 have hl:=(ak.1 h).1
 by_cases hij:i=j
 · subst hij;rw [an rfl,an hl,h]
 · rw [am hij]
theorem lQ {α β γ:Type} (E:α→β→γ):∀ (xs:List α) (ys:List β) (i:Nat) (x:α) (y:β),ys[i]? = some y→i<xs.length→(zipWith E xs ys).set i (E x y)=zipWith E (xs.set i x) ys
 | [],ys,i,x,y,h,hl=>by simp at hl
 | a::xs,[],i,x,y,h,hl=>by simp at h
 | a::xs,b::ys,0,x,y,h,hl=>by simp at h; subst h; simp
 | a::xs,b::ys,i+1,x,y,h,hl=>by
   have:=lQ E xs ys i x y (by simpa using h) (by simpa using hl);simp [this]
theorem xT {α β:Type} {E:α→β→aF} {xs:List α} {ys:List β} {F:List aF} {h:Heap} {i:Nat} {x:α} {y:β} (hy:ys[i]? = some y) (hi:i<xs.length) (H:aG (E x y::((zipWith E xs ys).eraseIdx i++F)) h) :
  aG (zipWith E (xs.set i x) ys++F) h:=by
 have hl:i<(zipWith E xs ys).length:=by
  have:=(ak.1 hy).1;rw [length_zipWith];omega
 have:=H.unfocus hl
 rwa [lQ E xs ys i x y hy hi] at this
def qe {α β:Type} (E:α→β→aF) (xs:List α) (ys:List β) (i:Nat):aF:=bP ((zipWith E xs ys).eraseIdx i)
theorem gU {α β:Type} {E:α→β→aF} {xs:List α} {ys:List β} {F:List aF} {h:Heap} {i:Nat} {x:α} {y:β} (H:aG (bP (zipWith E xs ys)::F) h) (hx:xs[i]? = some x) (hy:ys[i]? = some y) :
  aG (E x y::qe E xs ys i::F) h:=by
 have H2:=pn H.open hx hy
 have H3:aG ((E x y::(zipWith E xs ys).eraseIdx i)++F) h:=H2
 have H4:=H3.shut
 obtain ⟨r,hr,hs⟩:=H2
 exact ⟨r,cY (fun _ h=>h) (fun _ h=>bQ.1 h) hr,hs⟩
theorem sd {α β:Type} {E:α→β→aF} {xs:List α} {ys:List β} {F:List aF} {h:Heap} {i:Nat} {x:α} {y:β} (hy:ys[i]? = some y) (hi:i<xs.length) (H:aG (E x y::qe E xs ys i::F) h) :
  aG (bP (zipWith E (xs.set i x) ys)::F) h:=by
 have H2:aG (E x y::((zipWith E xs ys).eraseIdx i++F)) h:=by
  obtain ⟨r,hr,hs⟩:=H;exact ⟨r,cY (fun _ h=>h) (fun _ h=>bQ.2 h) hr,hs⟩
 exact (xT hy hi H2).shut
theorem qK {α β:Type} {E:α→β→aF} {xs:List α} {ys:List β} {F:List aF} {h:Heap} {i:Nat} {x:α} {y:β} (hx:xs[i]? = some x) (hy:ys[i]? = some y) (H:aG (E x y::qe E xs ys i::F) h) :
  aG (bP (zipWith E xs ys)::F) h:=by
 have:=sd hy (ak.1 hx).1 H
 rwa [jp hx] at this
theorem tt {α β:Type} {E:α→β→aF} {xs:List α} {ys:List β} {F:List aF} {h:Heap} {x:α} {y:β} (hl:xs.length=ys.length) (H:aG (bP (zipWith E xs ys)::E x y::F) h) :
  aG (bP (zipWith E (xs++[x]) (ys++[y]))::F) h:=by
 refine aG.shut ?_
 rw [zipWith_append hl,append_assoc]
 exact H.open
theorem aG.consMany {A:aF} {L F:List aF} {h:Heap} (H:aG (A::bP L::F) h):aG (bP (A::L)::F) h:=let ⟨r,hr,hs⟩:=H; ⟨r,jJ hr,hs⟩
theorem gd {h:Heap} {b:Nat} {c:Array Value} {e:TypeId} {fr:Nat×Nat} {v:Value} {K:Value→Prop} (hb:h[b]? = some (.cells c e fr)) (hv:c[0]? = some v) (hK:K v):Ld h ⟨b,0,none⟩ K:=
 ⟨v,by rw [cm hb]; exact hv,hK⟩
theorem sV {h:Heap} {F:List aF} {b:Nat} {u v:Value} {e:TypeId} {K:Heap→Prop} (H:aG (pt b (.cells #[u] e (0,0))::F) h) (hK:∀ h',aG (pt b (.cells #[v] e (0,0))::F) h'→K h'):bN h ⟨b,0,none⟩ v K:=
 jW H Nat.zero_lt_one (eD 1 0 (by decide)) hK
theorem dX {h:Heap} {F:List aF} {b i:Nat} {c:Array Value} {e:TypeId} {fr:Nat×Nat} {v:Value} {K:Value→Prop} (H:aG (pt b (.cells c e fr)::F) h) (hv:c[i]? = some v) (hK:K v):Ld h ((Addr.mk b 0 none).add i) K:=
 ⟨v,by rw [g4,Nat.zero_add,cm H.get]; exact hv,hK⟩
theorem ct {h:Heap} {F:List aF} {b i:Nat} {c c':Array Value} {e:TypeId} {v:Value} {K:Heap→Prop} (H:aG (pt b (.cells c e (0,0))::F) h) (hi:i<c.size) (hc:c.setIfInBounds i v=c') (hK:∀ h',aG (pt b (.cells c' e (0,0))::F) h'→K h') :
  bN h ((Addr.mk b 0 none).add i) v K:=by
 rw [g4,Nat.zero_add]
 refine jW H hi (fun hh=>by have:=hh.2; simp at this) fun h' H'=>hK h' ?_
 rw [← hc]
 exact H'
def aM (b:Nat):Value:=.pointer (some ⟨b,0,none⟩)
theorem nN {h:Heap} {b:Nat} {e:TypeId} {fr:Nat×Nat} {v:Value} {K:Value→Prop} (hb:h[b]? = some (.cells #[v] e fr)) (hK:K v):Ld h ⟨b,0,none⟩ K:=
 ⟨v,by rw [cm hb]; rfl,hK⟩
theorem gG {κ:Type} [DecidableEq κ] {E:pH κ} {b:Nat} {m:List (κ×Value)} {F:List aF} {h:Heap} (H:aG (bT E b m::F) h):∃ es clock,ft E es clock m∧eR h (some b) es:=by
 obtain ⟨es,clock,hm,H2⟩:=fZ H
 exact ⟨es,clock,hm,clock,H2.get⟩
theorem gu {P:Program} {f:FuncId} {first cap:Array Value} {args:List Value} {h:Heap} {Q:Value→Heap→Prop} (H:aE P f (first.toList++args++cap.toList) h Q):du P (.func (.func f) first cap) args h Q:=H
theorem kE {P:Program} {f:FuncId} {first cap:Array Value} {args:List Value} {h:Heap} {Q:Value→Heap→Prop} (H:aE P f (first.toList++args++cap.toList) h Q):us P (.func (.func f) first cap) args h Q:=H
theorem kD {P:Program} {n:Nat} {first cap:Array Value} {args:List Value} {h:Heap} {Q:Value→Heap→Prop} (H:jh P n (first.toList++args) h Q):du P (.func (.yield n) first cap) args h Q:=H
theorem aX {e:Nat} (h:e≠0):((e:Int)!=0)=true:=by
 rw [bne_iff_ne]
 omega
theorem kT {e:Nat} (h:e≠0):((e:Int)==0)=false:=by
 rw [beq_eq_false_iff_ne]
 omega
theorem gQ {e:Nat} (h:e=0):((e:Int)!=0)=false:=by rw [h]; rfl
theorem ge {F:List aF} {h:Heap} {b0:Nat} {e:TypeId} {fr:Nat×Nat} {cs:Array Value} {xs:List Value} (H:aG (pt b0 (.cells cs e fr)::F) h) (hx:cs.toList=xs):cv h (some ⟨b0,0,none⟩) xs:=by
 intro j u hv
 rw [dH H.get,← hv,← hx,Array.getElem?_toList]
def gi (P:Program) (e:TypeId) (sz b:Nat):Bool:=
 match P.info? e with
 | some i=>match i.zero with
   | some z=>Nat.beq z.cells.size sz&&Nat.beq i.size sz&&Nat.beq i.bytes b&&Nat.ble 1 b&&Nat.ble 1 sz
   | none=>false
 | none=>false
theorem qT {P:Program} {e:TypeId} {sz b:Nat} (h:gi P e sz b=true):∃ i z,P.info? e=some i∧i.zero=some z∧z.cells.size=sz∧i.size=sz∧i.bytes=b∧1≤b∧1≤sz:=by
 unfold gi at h
 split at h
 · rename_i i hi;split at h
   · rename_i z hz;simp only [ay] at h;exact ⟨i,z,hi,hz,Nat.eq_of_beq_eq_true h.1.1.1.1,Nat.eq_of_beq_eq_true h.1.1.1.2,Nat.eq_of_beq_eq_true h.1.1.2,Nat.le_of_ble_eq_true h.1.2,Nat.le_of_ble_eq_true h.2⟩
   · cases h
 · cases h
theorem gP {P:Program} {h:Heap} {F:List aF} {a:Option Addr} {l c sz:Nat} {xs ys:List Value} {t u ty e:TypeId} {b:Nat} {x:Value} {n:Nat} {K:Value→Heap→Prop}
  (ht:P.underlying t=some (.slice e)) (hu:d8 P u=true) (hi:gi P e sz b=true)
  (H:aG (aQ e sz a l c xs::F) h) (hx:rk P h sz x n ys) (h1:∀ u∈ys,u.oneCell'=true) (hb:(l+n)*b≤140737488355328)
  (hK:∀ a' c' h',(a'=none→l+n=0)→aG (aQ e sz a' (l+n) c' (xs++ys)::F) h'→K (.slice a' (l+n) c') h') :
  bB P (append_ #[t,u] ty #[.slice a l c,x]) h K:=by
 obtain ⟨i,z,e1,e2,e3,e4,e5,e6,e7⟩:=qT hi
 subst e5
 have hle:l+n≤(l+n)*i.bytes:=Nat.le_mul_of_pos_right _ (by omega)
 refine lN ht hu e1 e2 (by rw [e3,e4]) (by omega) (by rw [e4]; exact H) (by rw [e4]; exact hx) h1 (by omega) hb (by unfold maxLen; omega) ?_
 rw [e4]
 exact hK
theorem bz {h:Heap} {F:List aF} {b i:Nat} {c:Array Value} {e:TypeId} {fr:Nat×Nat} {x:ByteArray} {K:ByteArray→Prop} (H:aG (pt b (.cells c e fr)::F) h) (hv:c[i]? = some (.string x)) (hK:K x) :
 Ld h ((Addr.mk b 0 none).add i) fun v=>DS v K:=dX (v:=.string x) H hv ⟨_,rfl,hK⟩
theorem bM {h:Heap} {F:List aF} {b i:Nat} {c:Array Value} {e:TypeId} {fr:Nat×Nat} {k:IntKind} {x:Int} {K:Int→Prop} (H:aG (pt b (.cells c e fr)::F) h) (hv:c[i]? = some (.int k x)) (hK:K x) :
 Ld h ((Addr.mk b 0 none).add i) fun v=>DI k v K:=dX (v:=.int k x) H hv ⟨_,rfl,hK⟩
theorem bH {h:Heap} {F:List aF} {b i:Nat} {c:Array Value} {e:TypeId} {fr:Nat×Nat} {a:Option Addr} {l m:Nat} {K:Option Addr→Nat→Nat→Prop} (H:aG (pt b (.cells c e fr)::F) h) (hv:c[i]? = some (.slice a l m)) (hK:K a l m) :
 Ld h ((Addr.mk b 0 none).add i) fun v=>aZ v K:=dX (v:=.slice a l m) H hv (by rw [aI]; exact hK)
theorem dM {ss:List ByteArray} {la:Option Addr} {ll i:Nat} {s:ByteArray} {hh:Heap} {K:Addr→Prop} (hr:cv hh la (ss.map Value.string)) (hl:ss.length=ll) (hs:ss[i]? = some s)
  (hK:∀ b,bI hh b=some (.string s)→K b):aO la ll (i:Int) 1 K:=
 bj (v:=.string s) hr (by rw [aq]; exact hl) (by rw [List.getElem?_map,hs]; rfl) fun b hb hc=>hK _ hc
theorem fE {h:Heap} {a:Addr} {x:ByteArray} {K:ByteArray→Prop} (hv:bI h a=some (.string x)) (hK:K x):Ld h a fun v=>DS v K:=⟨_,hv,_,rfl,hK⟩
theorem p5 {h:Heap} {a:Addr} {p:Option Addr} {l c:Nat} {K:Option Addr→Nat→Nat→Prop} (hv:bI h a=some (.slice p l c)) (hK:K p l c):Ld h a fun v=>aZ v K:=⟨_,hv,by show aZ (.slice p l c) K; rw [aI]; exact hK⟩
theorem sQ {r s:eL} {h:Heap} (H:sub (cz r s) h):sub r h:=fun b x hx=>H b x (dQ hx)
theorem cg {F:List aF} {h:Heap} {b i:Nat} {c:Array Value} {e:TypeId} {fr:Nat×Nat} {v:Value} (H:aG (pt b (.cells c e fr)::F) h) (hv:c[i]? = some v):bI h ((Addr.mk b 0 none).add i)=some v:=by
 rw [g4,Nat.zero_add,cm H.get]
 exact hv
theorem kO {k c:Int} (h:k=c):(k==c)=true:=by rw [h]; exact beq_self_eq_true c
theorem iF {k c:Int} (h:¬ k=c):(k==c)=false:=by rw [beq_eq_false_iff_ne]; exact h
theorem kv {α:Type} {P:Nat→α→Prop}:∀ (n:Nat),(∀ i,i<n→∃ x,P i x)→∃ xs:List α,xs.length=n∧∀ (i:Nat) (x:α),xs[i]? = some x→P i x
 | 0,_=>⟨[],rfl,fun i x h=>by simp at h⟩
 | n+1,h=>by
   obtain ⟨xs,hl,hx⟩:=kv n fun i hi=>h i (by omega);obtain ⟨y,hy⟩:=h n (by omega);refine ⟨xs++[y],by simp [hl],fun i x hi=>?_⟩;rw [List.getElem?_append] at hi;split at hi
   · exact hx i x hi
   · rename_i hlt;have:i=n:=by
      have:=(ak.1 hi).1;simp at this;omega
     subst this;simp [hl] at hi;rw [← hi];exact hy
def iv (n:Int):Value:=.int .i64 n
def jH (a:Option Addr) (xs:List Value):aF:=fun r=>(∀ b x,r b=some x→x.2=true)∧∀ h,sub r h→cv h a xs
theorem oD (a:Option Addr) (xs:List Value):iT (jH a xs):=fun r h=>h.1
section
variable {F:List aF} {h:Heap}
theorem lU {a:Option Addr} {xs:List Value} (H:aG (jH a xs::F) h):cv h a xs:=by
 obtain ⟨r,⟨r1,r2,hd,rfl,⟨_,ho⟩,h2⟩,hs⟩:=H
 exact ho h (sQ hs)
theorem jt (H:aG F h):aG (jH none []::F) h:=by
 obtain ⟨r,hr,hs⟩:=H
 obtain ⟨r1,r2,hd,e1,h1,h2⟩:=od hr
 exact ⟨r,⟨r1,r2,hd,e1,⟨fun b x hx=>(by rw [h1 b] at hx; cases hx),fun h hs=>rfl⟩,h2⟩,hs⟩
theorem rP {e sz:Nat} {a:Option Addr} {l c:Nat} {xs:List Value} (H:aG (aQ e sz a l c xs::F) h):aG (jH a xs::F) h:=by
 obtain ⟨hl,⟨rfl,rfl,rfl,rfl,H2⟩ | ⟨b,cells,fr,rfl,hlc,hcm,hcs,hfr,ht,H2⟩⟩:=dB H
 · exact jt H2
 · refine H2.freeze.imp fun r hr=>⟨?_,fun h2 hs=>?_⟩
   · intro c x hx;rw [hr] at hx;simp only at hx;split at hx
     · cases hx; rfl
     · cases hx
   · have hb:h2[b]? = some (.cells cells e fr):=hs b (.cells cells e fr,true) (by rw [hr]; simp);intro j v hv;rw [dH hb,← Array.getElem?_toList];rw [← ht,getElem?_take] at hv;split at hv
     · exact hv
     · cases hv
end
section
variable {α:Type} {f:α→List Value} {sz:Nat}
theorem mp (hf:∀ x,(f x).length=sz) (xs:List α):(xs.flatMap f).length=xs.length*sz:=by
 induction xs with
 | nil=>simp
 | cons x xs ih=>rw [flatMap_cons,ao,hf,ih,ar,Nat.succ_mul,Nat.add_comm]
theorem jx (hf:∀ x,(f x).length=sz):∀ {xs:List α} {i j:Nat} {x:α},xs[i]? = some x→j<sz→(xs.flatMap f)[i*sz+j]? = (f x)[j]?
 | [],i,j,x,h,_=>by cases h
 | y::xs,0,j,x,h,hj=>by
   cases h;rw [flatMap_cons,Nat.zero_mul,Nat.zero_add,List.getElem?_append_left (by rw [hf]; exact hj)]
 | y::xs,i+1,j,x,h,hj=>by
   rw [flatMap_cons,List.getElem?_append_right (by rw [hf,Nat.succ_mul]; omega),hf,show (i+1)*sz+j - sz=i*sz+j by rw [Nat.succ_mul]; omega];exact jx hf h hj
theorem qW (hf:∀ x,(f x).length=sz):∀ {xs:List α} {i j:Nat} {x x':α} {v:Value},xs[i]? = some x→j<sz→(f x).set j v=f x'→(xs.flatMap f).set (i*sz+j) v=(xs.set i x').flatMap f
 | [],i,j,x,x',v,h,_,_=>by cases h
 | y::xs,0,j,x,x',v,h,hj,hx=>by
   cases h;rw [flatMap_cons,Nat.zero_mul,Nat.zero_add,List.set_append_left _ _ (by rw [hf]; exact hj),hx]
   rfl
 | y::xs,i+1,j,x,x',v,h,hj,hx=>by
   rw [flatMap_cons,set_append_right _ _ (by rw [hf,Nat.succ_mul]; omega),hf,show (i+1)*sz+j - sz=i*sz+j by rw [Nat.succ_mul]; omega,qW hf (show xs[i]? = some x from h) hj hx]
   rfl
theorem dp {a:Option Addr} {l i:Nat} {h:Heap} {xs:List α} {x:α} {K:Addr→Prop} (hf:∀ x,(f x).length=sz) (hp:0<sz) (H:cv h a (xs.flatMap f)) (hl:xs.length=l) (hi:xs[i]? = some x)
  (hK:∀ b,a=some b→(∀ j v,(f x)[j]? = some v→bI h ((b.add (i*sz)).add j)=some v)→K (b.add (i*sz))):aO a l (i:Int) sz K:=by
 have each:∀ j v,(f x)[j]? = some v→(xs.flatMap f)[i*sz+j]? = some v:=fun j v hv=>by
  have:=(ak.1 hv).1;rw [hf] at this;rw [jx hf hi this,hv]
 obtain ⟨v0,hv0⟩:∃ v,(f x)[0]? = some v:=⟨_,ai (by rw [hf]; exact hp)⟩
 obtain ⟨b,hb,_⟩:=H.nilOr (each 0 v0 hv0)
 have:=(ak.1 hi).1
 refine ⟨b,hb,by omega,by omega,?_⟩
 rw [Int.toNat_natCast]
 subst hb
 refine hK b rfl fun j v hv=>?_
 rw [bm]
 exact H _ _ (each j v hv)
theorem oR {h:Heap} {F:List aF} {e:TypeId} {b:Addr} {l c i j:Nat} {xs:List α} {x:α} (x':α) {v:Value} {K:Heap→Prop} (hf:∀ x,(f x).length=sz) (H:aG (aQ e sz (some b) l c (xs.flatMap f)::F) h) (hi:xs[i]? = some x) (hj:j<sz) (hx:(f x).set j v=f x')
  (hK:∀ h',aG (aQ e sz (some b) l c ((xs.set i x').flatMap f)::F) h'→K h'):bN h (((b.add (i*sz)).add j).add 0) v K:=by
 rw [aP,bm]
 have hlt:=(ak.1 hi).1
 have hm:(i+1)*sz≤xs.length*sz:=Nat.mul_le_mul_right _ hlt
 rw [Nat.succ_mul] at hm
 refine cO H (by rw [mp hf]; omega) fun h' H'=>hK h' ?_
 rw [qW hf hi hj hx] at H'
 exact H'
theorem g8 {P:Program} {t e:TypeId} {by_:Nat} {xs:List α} {x:α} {cs:Array Value} {a:Option Addr} {l c:Nat} {F:List aF} {h:Heap} {K:Heap→Option Addr→Nat→Nat→Prop} (ht:P.underlying t=some (.slice e)) (hu:d8 P t=true) (hi:gi P e sz by_=true)
  (hf:∀ x,(f x).length=sz) (h1:∀ u∈f x,u.oneCell'=true) (hcs:cs.toList=f x) (hl:xs.length=l) (hb:(l+1)*by_≤140737488355328) (H:aG (aQ e sz a l c (xs.flatMap f)::F) h)
  (hK:∀ a' c' h',aG (aQ e sz a' (l+1) c' ((xs++[x]).flatMap f)::F) h'→K h' a' (l+1) c') :
  Al h (.cells cs e) fun b1 h1=>bB P (append_ #[t,t] t #[.slice a l c,.slice (some (Addr.mk b1 0 none)) 1 1]) h1 fun r h2=>aZ r fun a' l' c'=>K h2 a' l' c':=by
 refine aW H fun b1 h2 H2=>?_
 refine gP ht hu hi (H2.mv 1) (n:=1) (bJ (ge H2 hcs) (by rw [hf,Nat.one_mul])) h1 hb fun a' c' h3 _ H3=>?_
 rw [aI]
 refine hK a' c' h3 ?_
 rw [flatMap_append,flatMap_cons,List.flatMap_nil,append_nil]
 exact (H3.mv 1).drop
end
theorem dL (a b:ByteArray):dm a b=decide (a=b):=by
 rw [gg]
 by_cases e:a=b
 · rw [ah e,ah (by rw [e])]
 · rw [af e,af (fun hh=>e (jL hh))]
theorem FJ {α:Type} {f:α→List Value} {sz i j:Nat} {h:Heap} {b:Addr} {xs:List α} {x:α} {v:Value} (hf:∀ x,(f x).length=sz) (H:cv h (some b) (xs.flatMap f)) (hi:xs[i]? = some x) (hv:(f x)[j]? = some v):bI h ((b.add (i*sz)).add j)=some v:=by
 have:=(ak.1 hv).1
 rw [hf] at this
 rw [bm]
 refine H _ _ ?_
 rw [jx hf hi this,hv]
def kS:Value→ByteArray
 | .string s=>s
 | _=>.empty
theorem ft.strKey {es:Array MapEntry} {clock:Nat} {m:List (ByteArray×Value)} (hm:ft aS es clock m) {e:MapEntry} (he:e∈es.toList):e.key=.string (kS e.key):=by
 have:=hm.key e he
 cases hk:e.key <;> rw [hk] at this <;> first | rfl | exact this.elim
theorem ft.keysOf {es:Array MapEntry} {clock:Nat} {m:List (ByteArray×Value)} (hm:ft aS es clock m):es.toList.map (fun e:MapEntry=>kS e.key)=m.map (·.1):=by
 have:=congrArg (List.map fun p:Value×Value=>kS p.1) hm.2
 simpa [map_map,Function.comp_def,aS,kS] using this
theorem aK (a:Addr) (K:Addr→Prop):aR (some a) K=K a:=rfl
end Go.Proofs.YtdpaiiibndnanaaGreatDoor
