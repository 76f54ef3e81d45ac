/- MetaPlays' comparison: the log has the document's entries. -/
import Derived.Test.YtmemjbiijclbdaaGreatMpMzX
import Derived.Test.YtmemjbiijclbdaaGreatMpTw
namespace Go.Proofs.YtmemjbiijclbdaaGreat
open Go.IntKind (wrap)
open Go.Proofs.Tryz (prog)
open List (length_filter_le getElem?_cons_zero)
open Go Go.RowKit Go.MapKept
set_option linter.unusedVariables false
set_option linter.unusedSimpArgs false
open AF (bA dq bm cu fe dz ey be ed fY jn Gr lr dB eI eD gw)
def Gi (b0 b1 b2:Nat) (h_7:Heap) (Q:Value→Heap→Prop):Prop:=
 Al h_7 (.cells #[.int .i64 0] 3) fun b3 h_16=>
  bz h_16 ((Addr.mk b3 0 none).add 0) (.int .i64 0) fun h_18=>
  Ld h_18 (Addr.mk b0 0 none) fun v12=>DP v12 fun x12=>
  aC prog 16 [.pointer x12] h_18 fun r13 h_19=>
  ∃ (x13:Value),r13=x13∧
  dL prog x13 2 none h_19 (fun l_1 rec_0 args0 h_20 Q_0=>
   ∃ (y0:Int),∃ (y1a:Option Addr),∃ (y1l:Nat),∃ (y1c:Nat),args0=[.int .i64 y0,.slice y1a y1l y1c]∧
   h_20[l_1]? = some (rec_0 .ready none)∧
   Ld (h_20.setIfInBounds l_1 (rec_0 .busy none)) (Addr.mk b3 0 none) fun v13=>DI .i64 v13 fun x14=>
   Ld (h_20.setIfInBounds l_1 (rec_0 .busy none)) (Addr.mk b2 0 none) fun v14=>aT v14 fun x15a x15l x15c=>
   (bif decide ((x14:Int)≥(x15l:Int)) then
    bz (h_20.setIfInBounds l_1 (rec_0 .busy none)) ((Addr.mk b1 0 none).add 0) (.bool false) fun h_22=>
    h_22[l_1]? = some (rec_0 .busy none)∧Q_0 (.bool false) (h_22.setIfInBounds l_1 (rec_0 .done (some .ret)))
   else
    Ld (h_20.setIfInBounds l_1 (rec_0 .busy none)) (Addr.mk b2 0 none) fun v15=>aT v15 fun x16a x16l x16c=>
    Ld (h_20.setIfInBounds l_1 (rec_0 .busy none)) (Addr.mk b3 0 none) fun v16=>DI .i64 v16 fun x17=>
    aR x16a x16l x17 2 fun a1=>
    Ld (h_20.setIfInBounds l_1 (rec_0 .busy none)) (a1.add 0) fun v17=>DI .i64 v17 fun x18=>
    (bif (x18:Int)!=y0 then
     bz (h_20.setIfInBounds l_1 (rec_0 .busy none)) ((Addr.mk b1 0 none).add 0) (.bool false) fun h_24=>
     h_24[l_1]? = some (rec_0 .busy none)∧Q_0 (.bool false) (h_24.setIfInBounds l_1 (rec_0 .done (some .ret)))
    else
     Ld (h_20.setIfInBounds l_1 (rec_0 .busy none)) (Addr.mk b2 0 none) fun v18=>aT v18 fun x19a x19l x19c=>
     Ld (h_20.setIfInBounds l_1 (rec_0 .busy none)) (Addr.mk b3 0 none) fun v19=>DI .i64 v19 fun x20=>
     aR x19a x19l x20 2 fun a2=>
     Ld (h_20.setIfInBounds l_1 (rec_0 .busy none)) (a2.add 1) fun v20=>DS v20 fun x21=>
     ∃ bs0:ByteArray,bJ (h_20.setIfInBounds l_1 (rec_0 .busy none)) y1a y1l bs0∧
     (bif !cv x21 bs0 then
      bz (h_20.setIfInBounds l_1 (rec_0 .busy none)) ((Addr.mk b1 0 none).add 0) (.bool false) fun h_26=>
      h_26[l_1]? = some (rec_0 .busy none)∧Q_0 (.bool false) (h_26.setIfInBounds l_1 (rec_0 .done (some .ret)))
     else
      Ld (h_20.setIfInBounds l_1 (rec_0 .busy none)) (Addr.mk b0 0 none) fun v21=>DP v21 fun x22=>
      aC prog 15 [.pointer x22,.int .i64 y0] (h_20.setIfInBounds l_1 (rec_0 .busy none)) fun r17 h_27=>
      ∃ (x23a:Option Addr),∃ (x23l:Nat),∃ (x23c:Nat),∃ (x24:Int),r17=.tuple #[.slice x23a x23l x23c,.int .i64 x24]∧
      (bif (x24:Int)!=0 then
       bz h_27 ((Addr.mk b1 0 none).add 0) (.bool false) fun h_29=>
       h_29[l_1]? = some (rec_0 .busy none)∧Q_0 (.bool false) (h_29.setIfInBounds l_1 (rec_0 .done (some .ret)))
      else
       ∃ bs1:ByteArray,bJ h_27 x23a x23l bs1∧
       ∃ bs2:ByteArray,bJ h_27 y1a y1l bs2∧
       (bif !cv bs1 bs2 then
        bz h_27 ((Addr.mk b1 0 none).add 0) (.bool false) fun h_31=>
        h_31[l_1]? = some (rec_0 .busy none)∧Q_0 (.bool false) (h_31.setIfInBounds l_1 (rec_0 .done (some .ret)))
       else
        Ld h_27 (Addr.mk b3 0 none) fun v22=>DI .i64 v22 fun x25=>
        bz h_27 ((Addr.mk b3 0 none).add 0) (.int .i64 (wrap .i64 (x25+1))) fun h_33=>
        h_33[l_1]? = some (rec_0 .busy none)∧Q_0 (.bool true) (h_33.setIfInBounds l_1 (rec_0 .ready none)))))))) (fun pend0 h_34=>
   (pend0=none∨pend0=some (.ret))∧
   (pend0=none→
    Ld h_34 (Addr.mk b3 0 none) fun v23=>DI .i64 v23 fun x26=>
    Ld h_34 (Addr.mk b2 0 none) fun v24=>aT v24 fun x27a x27l x27c=>
    bz h_34 ((Addr.mk b1 0 none).add 0) (.bool ((x26:Int)==(x27l:Int))) fun h_36=>
    h_36[h_19.size]? = some (.deferred (some []))∧
    Ld (h_36.setIfInBounds h_19.size (.deferred none)) (Addr.mk b1 0 none) fun v25=>DB v25 fun res4=>
    Q (.bool res4) (h_36.setIfInBounds h_19.size (.deferred none)))∧
   (pend0=some (.ret)→
    h_34[h_19.size]? = some (.deferred (some []))∧
    Ld (h_34.setIfInBounds h_19.size (.deferred none)) (Addr.mk b1 0 none) fun v26=>DB v26 fun res5=>
    Q (.bool res5) (h_34.setIfInBounds h_19.size (.deferred none))))
section
variable {F:List aE} {h:Heap} {b fsb r m n:Nat} {M:bA} {A:AF.FS}
set_option maxHeartbeats 1000000 in
theorem qA {b0 b1 b2 ec:Nat} {ea:Option Addr} {Q:Value→Heap→Prop} (O:jT n M) (hn:n≤10000)
  (H:aD (pt b0 (.cells #[aI b] 27 (0,0))::pt b1 (.cells #[.bool false] 4 (0,0))::pt b2 (.cells #[.slice ea M.entries.length ec] 127 (0,0))::aL 137 2 ea M.entries.length ec (M.entries.flatMap dQ)::cP b fsb M::F) h)
  (hQ:∀ h',aD (cP b fsb M::F) h'→Q (.bool true) h'):Gi b0 b1 b2 h Q:=by
 unfold Gi
 refine aQ H fun b3 h1 H1=>?_
 refine bQ H1 (show 0<1 by decide) rfl fun h2 H2=>?_
 have hEl:M.entries.length<1000000000:=by
  have h1:=AF.copy_len M.D M.S;have h2:=jD M.D;have h3:=O.wtD;have h4:=O.lenS;have e:M.entries=dq M.S M.D:=rfl;rw [← e] at h1;omega
 refine lm (H2.mv 1).get ?_
 refine (Dq (H2.mv 5)).mono ?_
 rintro v h3 ⟨cb,eb,rfl,H3⟩
 refine ⟨_,rfl,?_⟩
 have H4:aD (Jj cb eb M.entries::pt b3 (.cells #[.int .i64 ((0:Nat):Int)] 3 (0,0))::pt b0 (.cells #[aI b] 27 (0,0))::pt b1 (.cells #[.bool false] 4 (0,0))::pt b2 (.cells #[.slice ea M.entries.length ec] 127 (0,0))::aL 137 2 ea M.entries.length ec (M.entries.flatMap dQ)::cP b fsb M::F) h3:=H3.ordT 7 [0,2,3,4,5,6,1]
 refine zz M.entries tx (fun i=>pt b3 (.cells #[.int .i64 (i:Int)] 3 (0,0))::pt b0 (.cells #[aI b] 27 (0,0))::pt b1 (.cells #[.bool false] 4 (0,0))::pt b2 (.cells #[.slice ea M.entries.length ec] 127 (0,0))::aL 137 2 ea M.entries.length ec (M.entries.flatMap dQ)::cP b fsb M::F) (fun _=>iJ False) _ H4 Ag
  (fun yf yp yc G X Out h7 hh r f fx=>CW (by omega) (fun p hp=>Nat.le_trans (O.okE p hp).2.2 (by decide)) yf yp yc G X Out h7 hh r f fx) ?_ ?_ ?_
 · intro K i x args L rec h11 Q hx H11 hgo hstop;have hi:=(aj.1 hx).1;have hxm:=ai hx;have hok:=O.okE x hxm;have HL:=H11.get;obtain ⟨a,c,rfl,H12⟩:=rC (H11.mv 2);refine ⟨x.1,a,x.2.length,c,rfl,HL,?_⟩;have H13:=(H12.mv 1).set (rec .busy none);refine pS (H13.mv 4).get ?_;refine xh (H13.mv 7).get ?_;rw [ae (show ¬ ((i:Int)≥(M.entries.length:Int)) by omega),aa];refine xh (H13.mv 7).get ?_;refine pS (H13.mv 4).get ?_;refine ju (aH (H13.mv 8)) rfl hx ?_;rw [bne_self_eq_false,aa];refine xh (H13.mv 7).get ?_;refine pS (H13.mv 4).get ?_;refine Hh (aH (H13.mv 8)) rfl hx ?_;refine ⟨bT x.2,ct (aH (H13.mv 1)) rfl hok.2.1,?_⟩;rw [show cv (bT x.2) (bT x.2)=true from by rw [fZ]; exact af rfl,az,aa];refine lm (H13.mv 5).get ?_;have hg:M.get x.1=some x.2:=by
    rw [← O.getE];exact cZ O.upE hxm
   refine (w6 (id:=x.1) (fun y hy=>by have:=(O.get hy).2; omega) (H13.mv 9)).mono ?_;rintro v h12 (⟨hno,_⟩ | ⟨y,a2,c2,hy,rfl,H14⟩)
   · rw [hg] at hno; cases hno
   rw [hg] at hy;cases hy;refine ⟨a2,x.2.length,c2,0,rfl,?_⟩;rw [show ((0:Int)!=0)=false from rfl,aa];refine ⟨bT x.2,ct (aH H14) rfl hok.2.1,bT x.2,ct (aH (H14.mv 3)) rfl hok.2.1,?_⟩;rw [show cv (bT x.2) (bT x.2)=true from by rw [fZ]; exact af rfl,az,aa];refine pS (H14.mv 6).get ?_;rw [aK (by omega)];refine bQ (H14.mv 6) (show 0<1 by decide) rfl fun h13 H15=>?_;exact hgo h13 (H15.ordT 11 [3,5,6,0,7,8,9,10,2])
 · intro K h11 H11;refine ⟨.inl rfl,fun _=>?_,(fun e=>by cases e)⟩;refine pS (H11.mv 2).get ?_;refine xh (H11.mv 5).get ?_;rw [jX rfl];refine bQ (H11.mv 4) (show 0<1 by decide) rfl fun h12 H12=>?_;refine ⟨(H12.mv 1).get,?_⟩;have H13:=(H12.mv 1).set (.deferred none);refine Mk (H13.mv 1).get ?_;exact hQ _ (H13.ordT 8 [7])
 · intro K j h11 H11;exact ((bh.1 (H11.mv 2)).1).elim
theorem xe (H:aD (cP b fsb M::F) h):aC prog 12 [aI b] h fun v h'=>v=.int .i64 (M.entries.length:Int)∧aD (cP b fsb M::F) h':=by
 apply I8.ap
 unfold Ns
 rw [show (some (⟨b,0,none⟩:Addr)).isNone=false from rfl,aa]
 refine (l9 H).mono ?_
 rintro v h1 ⟨eb,rfl,H1⟩
 rw [bY]
 obtain ⟨es,f,h1,h2,_⟩:=nG H1 0
 exact ⟨es,h1,by rw [h2],H1.drop⟩
theorem C4 (O:jT n M) (hn:n≤10000) (H:aD (cP b fsb M::fh r m M::F) h):aC prog 30 [aI b,aI r] h fun v h'=>v=.bool true∧aD (cP b fsb M::fh r m M::F) h':=by
 have hS:=O.lenS
 have hDl:M.D.length<100000000:=by
  have h1:=jD M.D;have h2:=O.wtD;omega
 have hEl:M.entries.length<1000000000:=by
  have h1:=AF.copy_len M.D M.S;have e:M.entries=dq M.S M.D:=rfl;rw [← e] at h1;omega
 apply IE.ap
 unfold Nd
 refine aQ H fun b0 h1 H1=>?_
 refine aQ H1 fun b1 h2 H2=>?_
 refine (rI O.upD O.upS hDl (by omega) (H2.mv 3)).mono ?_
 rintro v h3 ⟨ea,ec,rfl,H3⟩
 rw [aF]
 refine aQ H3 fun b2 h4 H4=>?_
 refine bQ H4 (show 0<1 by decide) rfl fun h5 H5=>?_
 refine lm (H5.mv 4).get ?_
 refine (Dl (H5.mv 5)).mono ?_
 rintro v h6 ⟨rfl,H6⟩
 refine ⟨_,_,rfl,?_⟩
 refine lm (H6.mv 5).get ?_
 refine xh (H6.mv 1).get ?_
 refine (xe H6).mono ?_
 rintro v h7 ⟨rfl,H7⟩
 rw [aJ]
 refine ⟨xh (H7.mv 1).get rfl,rfl,?_⟩
 rw [bne_self_eq_false,aa]
 refine xh (H7.mv 1).get ?_
 have fin:∀ h',aD (cP b fsb M::fh r m M::F) h'→(Value.bool true)=.bool true∧aD (cP b fsb M::fh r m M::F) h':=fun h' H'=>⟨rfl,H'⟩
 have K:aD (pt b0 (.cells #[aI b] 27 (0,0))::pt b1 (.cells #[.bool false] 4 (0,0))::pt b2 (.cells #[.slice ea M.entries.length ec] 127 (0,0))::aL 137 2 ea M.entries.length ec (M.entries.flatMap dQ)::cP b fsb M::fh r m M::F) h7:=H7.ordT 6 [5,4,1,2,0,3]
 by_cases hne:M.entries=[]
 · have e1:bm M.entries = -1:=by rw [hne]; rfl
   have e2:((M.entries.length:Nat):Int)=0:=by rw [hne]; rfl
   rw [e1,e2,show decide ((0:Int) ≤ -1)=false from rfl,show decide ((0:Int)>0)=false from rfl,show (!(false==false))=false from rfl,aa,aa,show (!false)=true from rfl,ab,show (max (0:Int) (-1)!=0)=false from rfl,aa];exact qA (Q:=fun v h'=>v=.bool true∧aD (cP b fsb M::fh r m M::F) h') O hn K fin
 · have hpos:0<M.entries.length:=List.length_pos_iff.2 hne;obtain ⟨q,hq⟩:∃ q,M.entries[M.entries.length - 1]? = some q:=⟨_,ah (by omega)⟩
   have htop:bm M.entries=q.1:=AF.jb O.upE (fun p hp=>(O.okE p hp).1.1) hq;have hq0:=(O.okE q (ai hq)).1.1;rw [htop,af hq0,af (show ((M.entries.length:Nat):Int)>0 by omega),show (!(true==true))=false from rfl,aa,ab];refine xh (H7.mv 1).get ?_;refine xh (H7.mv 1).get ?_;have hw1:wrap .i64 (((M.entries.length:Nat):Int) - 1)=((M.entries.length - 1:Nat):Int):=by rw [IntWalk.i64_in _ (by omega)]; omega
   rw [hw1];refine ju (aH (H7.mv 2)) rfl hq ?_;rw [show (max (0:Int) q.1 !=q.1)=false from by rw [Int.max_eq_right hq0]; exact bne_self_eq_false _,aa,show (!true)=false from rfl,aa];exact qA (Q:=fun v h'=>v=.bool true∧aD (cP b fsb M::fh r m M::F) h') O hn K fin
end
abbrev lp.arr (y:lp):Array Value:=#[.int .i64 y.k,.string y.dir,.string y.name,.string y.b,.int .i64 y.n,.int .u8 y.turn,.slice y.pa y.pl y.pc]
theorem Ed {h:Heap} {F:List aE} {b:Nat} {e:TypeId} {y:lp} (H:aD (pt b (.cells y.arr e (0,0))::F) h) (hy:ma h y):uY h (some ⟨b,0,none⟩) [y]:=by
 intro i x hx
 cases i with
 | succ i=>simp at hx
 | zero=>
   simp only [getElem?_cons_zero,Option.some.injEq] at hx;subst hx;refine ⟨hy,_,rfl,fun j v hj=>?_⟩;rw [Nat.zero_mul,Nat.zero_add,dU H.get,← Array.getElem?_toList];exact hj
theorem ma.old {h h':Heap} {F:List aE} {y:lp} (h1:ma h y) (hs:aD (old h::F) h'):ma h' y:=by
 obtain ⟨ps,hr,h2,h3⟩:=h1.picks
 exact ⟨h1.k,h1.n,h1.turn,h1.dir,h1.name,h1.b,ps,hr.old hs,h2,h3⟩
structure Af where
 k:Int
 v:Int
 fs:lp
abbrev Af.arr (y:Af):Array Value:=#[.int .i64 y.k,.int .i64 y.v,.int .i64 y.fs.k,.string y.fs.dir,.string y.fs.name,.string y.fs.b,.int .i64 y.fs.n,.int .u8 y.fs.turn,.slice y.fs.pa y.fs.pl y.fs.pc]
def dS:ByteArray:=⟨#[100]⟩
def SI (f m:Nat) (s t:Option Addr) (brk:Bool) (A:AF.FS) (n:Nat) (G:List aE) (hh:Heap):Prop:=
 (brk=true∧aD (co f A::bp m A::G) hh)∨
 (brk=false∧∃ b r M,s=some ⟨b,0,none⟩∧t=some ⟨r,0,none⟩∧jT n M∧M.dir=dS∧aD (cP b f M::fh r m M::co f A::bp m A::G) hh)
theorem dY {F:List aE} {h:Heap} {b i:Nat} {c:Array Value} {e:TypeId} {fr:Nat×Nat} {k:IntKind} {x:Int} {K:Int→Prop} (H:aD (pt b (.cells c e fr)::F) h) (hv:c[i]? = some (.int k x)) (hK:K x):Ld h ((Addr.mk b 0 none).add i) fun v=>DI k v K:=
 gA H hv (by show DI k (.int k x) K; rw [aJ]; exact hK)
abbrev PY (b0:Nat) (y:Af):aE:=pt b0 (.cells y.arr 61 (0,0))
section
variable {f m b0 n i:Nat} {A:AF.FS} {y:Af} {G:List aE} {hh hh0:Heap} {s t:Option Addr} {again:Option Addr×Option Addr×Bool×Int→Heap→Prop}
abbrev xZ (f m:Nat) (A:AF.FS) (n i:Nat) (G:List aE) (again:Option Addr×Option Addr×Bool×Int→Heap→Prop):Prop:=
 ∀ s' t' brk' A' h',A'.WF→Gr 20000 A A'→SI f m s' t' brk' A' (n+1) G h'→again (s',t',brk',((i+1:Nat):Int)) h'
theorem xQ {brk:Bool} (hi:i<1000000) (H:aD (PY b0 y::G) hh) (go:∀ brk',(brk=true→brk'=true)→again (s,t,brk',((i+1:Nat):Int)) hh):Kz b0 s t brk (i:Int) hh again:=by
 unfold Kz
 rw [aK (by omega)]
 refine dY H rfl ?_
 by_cases h0:y.k<0
 · rw [af h0,ab];exact go true fun _=>rfl
 · rw [ae h0,aa];refine dY H rfl ?_;by_cases h3:y.k>3
   · rw [af h3,ab];exact go true fun _=>rfl
   · rw [ae h3,aa];exact go brk fun h=>h
theorem Hm {b r:Nat} {M:bA} {Q:Value→Heap→Prop} (O:jT n M) (hd:M.dir=dS) (hn:n≤10000) (hi:i<1000000) (H:aD (cP b f M::fh r m M::co f A::bp m A::PY b0 y::G) hh)
  (go:∀ brk' h',SI f m (some ⟨b,0,none⟩) (some ⟨r,0,none⟩) brk' A n (PY b0 y::G) h'→again (some ⟨b,0,none⟩,some ⟨r,0,none⟩,brk',((i+1:Nat):Int)) h'):EY b0 (some ⟨b,0,none⟩) (some ⟨r,0,none⟩) false (i:Int) hh again Q:=by
 unfold EY
 refine (C4 O hn H).mono ?_
 rintro v h1 ⟨rfl,H1⟩
 rw [cd,az,aa]
 refine xQ (y:=y) hi (H1.mv 4) fun brk' _=>?_
 cases brk' with
 | true=>exact go true h1 (.inl ⟨rfl,H1.ordT 5 [2,3,4]⟩)
 | false=>exact go false h1 (.inr ⟨rfl,b,r,M,rfl,rfl,O,hd,H1⟩)
theorem sn {e:Int} {Q:Value→Heap→Prop} (W:A.WF) (hi:i<1000000) (H:aD (co f A::bp m A::PY b0 y::G) hh) (go:∀ h',aD (co f A::bp m A::PY b0 y::G) h'→again (s,t,true,((i+1:Nat):Int)) h') :
  Ai (some ⟨f,0,none⟩) (some ⟨m,0,none⟩) b0 s t true (i:Int) e hh again Q:=by
 unfold Ai
 refine (rM W H).mono ?_
 rintro v h1 ⟨rfl,H1⟩
 rw [cd,az,aa,ab]
 exact xQ (y:=y) hi (H1.mv 2) fun brk' hb=>by rw [hb rfl]; exact go h1 H1
theorem so {e:Nat} {Q:Value→Heap→Prop} (W:A.WF) (hi:i<1000000) (hk:0≤y.k∧y.k<3) (he:e≠0∧e≠2∧e≠90∧e≠91) (H:aD (co f A::bp m A::PY b0 y::G) hh)
  (go:∀ h',aD (co f A::bp m A::PY b0 y::G) h'→again (s,t,true,((i+1:Nat):Int)) h') :
  Ai (some ⟨f,0,none⟩) (some ⟨m,0,none⟩) b0 s t false (i:Int) (e:Int) hh again Q:=by
 unfold Ai
 refine (rM W H).mono ?_
 rintro v h1 ⟨rfl,H1⟩
 obtain ⟨e1,e2,e3,e4⟩:=he
 have bne:∀ k:Nat,e≠k→((e:Int)!=(k:Int))=true:=fun k hk=>by rw [bne_iff_ne]; omega
 rw [cd,az,aa,aa]
 refine dY (H1.mv 2) rfl ?_
 rw [af (show y.k≥0 from hk.1),ab]
 refine dY (H1.mv 2) rfl ?_
 rw [af hk.2,ab,show ((e:Int)!=0)=true from bne 0 e1,ab,show ((e:Int)!=2)=true from bne 2 e2,ab,show ((e:Int)!=90)=true from bne 90 e3,ab,show ((e:Int)!=91)=true from bne 91 e4,az,aa]
 exact xQ (y:=y) hi (H1.mv 2) fun brk' hb=>by rw [hb rfl]; exact go h1 H1
theorem mg {e b r:Nat} {M:bA} {Q:Value→Heap→Prop} (W:A.WF) (hi:i<1000000) (O:jT n M) (hd:M.dir=dS) (hn:n≤10000) (H:aD (cP b f M::fh r m M::co f A::bp m A::PY b0 y::G) hh)
  (go:∀ brk' h',SI f m (some ⟨b,0,none⟩) (some ⟨r,0,none⟩) brk' A n (PY b0 y::G) h'→again (some ⟨b,0,none⟩,some ⟨r,0,none⟩,brk',((i+1:Nat):Int)) h') :
  Ai (some ⟨f,0,none⟩) (some ⟨m,0,none⟩) b0 (some ⟨b,0,none⟩) (some ⟨r,0,none⟩) false (i:Int) (e:Int) hh again Q:=by
 by_cases hh4:(0≤y.k∧y.k<3)∧(e≠0∧e≠2∧e≠90∧e≠91)
 · exact so (y:=y) (G:=G) W hi hh4.1 hh4.2 (H.ordT 5 [2,3,4]) fun h' H'=>go true h' (.inl ⟨rfl,H'⟩)
 unfold Ai
 refine (rM W (H.ordT 4 [2,3,0,1])).mono ?_
 rintro v h1 ⟨rfl,H1⟩
 have H2:aD (cP b f M::fh r m M::co f A::bp m A::PY b0 y::G) h1:=H1.ordT 4 [2,3,0,1]
 have chk:∀ {brk:Bool},brk=false→EY b0 (some ⟨b,0,none⟩) (some ⟨r,0,none⟩) brk (i:Int) h1 again Q:=by
  rintro brk rfl;exact Hm O hd hn hi H2 go
 rw [cd,az,aa,aa]
 refine dY (H2.mv 4) rfl ?_
 by_cases hk0:0≤y.k
 rotate_left
 · rw [ae (show ¬ y.k≥0 from hk0),aa];exact chk rfl
 rw [af (show y.k≥0 from hk0),ab]
 refine dY (H2.mv 4) rfl ?_
 by_cases hk4:y.k<3
 rotate_left
 · rw [ae hk4,aa];exact chk rfl
 rw [af hk4,ab]
 have bne:∀ k:Nat,e≠k→((e:Int)!=(k:Int))=true:=fun k hk=>by rw [bne_iff_ne]; omega
 by_cases e0:e=0
 · rw [e0,show (((0:Nat):Int)!=0)=false from rfl,aa];exact chk rfl
 rw [show ((e:Int)!=0)=true from bne 0 e0,ab]
 by_cases e2:e=2
 · rw [e2,show (((2:Nat):Int)!=2)=false from rfl,aa];exact chk rfl
 rw [show ((e:Int)!=2)=true from bne 2 e2,ab]
 by_cases e3:e=90
 · rw [e3,show (((90:Nat):Int)!=90)=false from rfl,aa];exact chk rfl
 rw [show ((e:Int)!=90)=true from bne 90 e3,ab]
 by_cases e4:e=91
 · rw [e4,show (((91:Nat):Int)!=91)=false from rfl,aA,ab];exact chk rfl
 · exact absurd ⟨⟨hk0,hk4⟩,e0,e2,e3,e4⟩ hh4
theorem Et {e:Nat} (h:lL e):e≠0∧e≠2∧e≠90∧e≠91:=by
 unfold lL at h
 omega
theorem vp {b r:Nat} {q:AF.FS×bA×Nat} {M':bA} {Q:Value→Heap→Prop} (W:q.1.WF) (hi:i<1000000) (hk:0≤y.k∧y.k<3) (hn:n≤10000) (hq:lL q.2.2∨jT n q.2.1) (hd:q.2.1.dir=dS) (hM:M'=q.2.1∨lL q.2.2)
  (H:aD (cP b f q.2.1::fh r m M'::co f q.1::bp m q.1::PY b0 y::G) hh)
  (go:∀ brk' h',SI f m (some ⟨b,0,none⟩) (some ⟨r,0,none⟩) brk' q.1 n (PY b0 y::G) h'→again (some ⟨b,0,none⟩,some ⟨r,0,none⟩,brk',((i+1:Nat):Int)) h') :
  Ai (some ⟨f,0,none⟩) (some ⟨m,0,none⟩) b0 (some ⟨b,0,none⟩) (some ⟨r,0,none⟩) false (i:Int) (q.2.2:Int) hh again Q:=by
 have hard:lL q.2.2→Ai (some ⟨f,0,none⟩) (some ⟨m,0,none⟩) b0 (some ⟨b,0,none⟩) (some ⟨r,0,none⟩) false (i:Int) (q.2.2:Int) hh again Q:=fun hh=>
  so (y:=y) (G:=G) W hi hk (Et hh) (H.ordT 5 [2,3,4]) fun h' H'=>go true h' (.inl ⟨rfl,H'⟩)
 rcases hM with rfl | hM
 · rcases hq with hq | hq
   · exact hard hq
   · exact mg (y:=y) W hi hq hd hn H go
 · exact hard hM
theorem JU {b r:Nat} {M:bA} {Q:Value→Heap→Prop} (hk:y.k=0) (W:A.WF) (hst:A.steps+100000<1099511627776) (hfl:A.files.length+100000<1099511627776) (hn:n≤4500) (hi:i<1000000) (hL:wB y.fs)
  (O:jT n M) (hd:M.dir=dS) (H:aD (cP b f M::fh r m M::co f A::bp m A::PY b0 y::[old hh0]) hh) (go:xZ f m A n i (PY b0 y::[old hh0]) again) :
  yb (some ⟨f,0,none⟩) (some ⟨m,0,none⟩) b0 (some ⟨b,0,none⟩,some ⟨r,0,none⟩,false,(i:Int)) hh again Q:=by
 have hLb:=hL.b
 unfold yb
 dsimp only
 simp only [dC]
 refine dY (H.mv 4) rfl ?_
 rw [jX hk,ab]
 refine dY (i:=1) (H.mv 4) rfl ?_
 refine bI (i:=2+3) (x:=y.fs.b) (H.mv 4) rfl ?_
 refine dY (i:=1) (H.mv 4) rfl ?_
 refine bI (i:=2+3) (x:=y.fs.b) (H.mv 4) rfl ?_
 refine yV H (by unfold maxLen; omega) fun ca cc h1 H1=>?_
 rw [aF]
 have hsb:=bd y.fs.b
 rw [← hsb] at H1 ⊢
 refine ⟨rfl,rfl,dY (i:=1) (H1.mv 5) rfl rfl,rfl,rfl,dY (i:=1) (H1.mv 5) rfl rfl,rfl,rfl,bI (i:=2+3) (x:=y.fs.b) (H1.mv 5) rfl rfl,?_⟩
 refine (oF (id:=y.v) (bs:=sb y.fs.b) (F:=aL 5 1 ca (sb y.fs.b).length cc ((sb y.fs.b).map nv)::fh r m M::bp m A::PY b0 y::[old hh0]) W (by omega) (by rw [hd]; decide) (fun x hx=>(O.get hx).1) (fun h' hx=>aH hx) (fT _) rfl (by omega) (H1.ordT 7 [1,3,0,2,4,5,6])).mono ?_
 rintro v h2 ⟨rfl,W',_,H2⟩
 rw [aJ]
 refine ⟨rfl,rfl,dY (i:=1) (H2.mv 5) rfl rfl,rfl,rfl,bI (i:=2+3) (x:=y.fs.b) (H2.mv 5) rfl rfl,?_⟩
 refine (C9 (id:=y.v) (s:=y.fs.b) O (by omega) W (by omega) (by omega) (by omega) (H2.ordT 7 [3,4,0,1,5,6])).mono ?_
 rintro v h3 ⟨rfl,H3⟩
 rw [aJ,bne_self_eq_false,aa]
 obtain ⟨K1,K2⟩:=BG (A:=A) (id:=y.v) O (fT y.fs.b) (by omega)
 have K3:=(GO (M:=M) W (fun _ _=>trivial) (id:=y.v) (s:=y.fs.b)).2
 exact mg (y:=y) (n:=n+1) W' hi K1 (by rw [K2,hd]) (by omega) (H3.ordT 6 [2,0,3,1,4,5]) fun brk' h' hs=>go _ _ brk' _ h' W' (K3.le (by omega)) hs
theorem JT {b r:Nat} {M:bA} {Q:Value→Heap→Prop} (hk:y.k=1) (W:A.WF) (hst:A.steps+100000<1099511627776) (hfl:A.files.length+100000<1099511627776) (hn:n≤4500) (hi:i<1000000)
  (O:jT n M) (hd:M.dir=dS) (H:aD (cP b f M::fh r m M::co f A::bp m A::PY b0 y::[old hh0]) hh) (go:xZ f m A n i (PY b0 y::[old hh0]) again) :
  yb (some ⟨f,0,none⟩) (some ⟨m,0,none⟩) b0 (some ⟨b,0,none⟩,some ⟨r,0,none⟩,false,(i:Int)) hh again Q:=by
 have lS:=O.lenS
 have lF:=O.lenF
 have hw0:=O.wt (show n≤10000 by omega)
 have hEl:M.entries.length<1000000000:=by
  have h1:=AF.copy_len M.D M.S;have h2:=jD M.D;have h3:=O.wtD;have e:M.entries=dq M.S M.D:=rfl;rw [← e] at h1;omega
 unfold yb
 dsimp only
 refine dY (H.mv 4) rfl ?_
 rw [iW (show ¬ y.k=0 by omega),aa]
 refine dY (H.mv 4) rfl ?_
 rw [jX hk,ab]
 refine dY (i:=1) (H.mv 4) rfl ?_
 refine dY (i:=1) (H.mv 4) rfl ?_
 refine (w7 (upto:=y.v) W (by omega) (by rw [hd]; decide) (fun p hp=>⟨(O.okE p hp).1.1,(O.okE p hp).2.1,by have:=(O.okE p hp).2.2; omega⟩) hEl (fun mx=>?_) (H.ordT 6 [0,2,1,3,4,5])).mono ?_
 · have h1:=oS (E:=dW M.entries mx) (fun p hp=>(O.okE p (List.mem_filter.1 hp).1).2.2) (by
    have:=length_filter_le (fun p=>decide (p.1≤mx)) M.entries;have e:dW M.entries mx=M.entries.filter fun p=>decide (p.1≤mx):=rfl;rw [e];omega)
   have h2:=kG (fun p=>decide (p.1≤mx)) M.entries;have e:dW M.entries mx=M.entries.filter fun p=>decide (p.1≤mx):=rfl;rw [← e] at h2;omega
 rintro v h2 ⟨rfl,W',_,H2⟩
 rw [aJ]
 refine ⟨rfl,rfl,dY (i:=1) (H2.mv 4) rfl rfl,?_⟩
 refine (C8 (upto:=y.v) O (by omega) W (by omega) (by omega) (H2.ordT 6 [2,3,0,1,4,5])).mono ?_
 rintro v h3 ⟨rfl,M',H3,hM⟩
 rw [aJ,bne_self_eq_false,aa]
 obtain ⟨K1,K2⟩:=zT (A:=A) O y.v
 have K3:=Ev W O y.v
 exact vp (y:=y) (n:=n+1) (q:=M.fold A y.v) W' hi (by omega) (by omega) K1 (by rw [K2,hd]) hM (H3.ordT 6 [2,0,3,1,4,5]) fun brk' h' hs=>go _ _ brk' _ h' W' (K3.le (by omega)) hs
theorem JS {b r:Nat} {M:bA} {Q:Value→Heap→Prop} (hk:y.k=2) (W:A.WF) (hst:A.steps+100000<1099511627776) (hfl:A.files.length+100000<1099511627776) (hn:n≤4500) (hi:i<1000000)
  (O:jT n M) (hd:M.dir=dS) (H:aD (cP b f M::fh r m M::co f A::bp m A::PY b0 y::[old hh0]) hh) (go:xZ f m A n i (PY b0 y::[old hh0]) again) :
  yb (some ⟨f,0,none⟩) (some ⟨m,0,none⟩) b0 (some ⟨b,0,none⟩,some ⟨r,0,none⟩,false,(i:Int)) hh again Q:=by
 have lS:=O.lenS
 have lF:=O.lenF
 unfold yb
 dsimp only
 refine dY (H.mv 4) rfl ?_
 rw [iW (show ¬ y.k=0 by omega),aa]
 refine dY (H.mv 4) rfl ?_
 rw [iW (show ¬ y.k=1 by omega),aa]
 refine dY (H.mv 4) rfl ?_
 rw [jX hk,ab]
 refine dY (i:=1) (H.mv 4) rfl ?_
 refine dY (i:=1) (H.mv 4) rfl ?_
 refine (De (below:=y.v) W (by omega) (by rw [hd]; decide) (H.ordT 6 [0,2,1,3,4,5])).mono ?_
 rintro v h2 ⟨rfl,W',_,H2⟩
 rw [aJ]
 refine ⟨rfl,rfl,dY (i:=1) (H2.mv 4) rfl rfl,?_⟩
 refine (C7 (below:=y.v) O W (by omega) (by omega) (by omega) (H2.ordT 6 [2,3,0,1,4,5])).mono ?_
 rintro v h3 ⟨rfl,M',H3,hM⟩
 rw [aJ,bne_self_eq_false,aa]
 have K1:=xq (A:=A) O y.v
 obtain ⟨K3,K2⟩:=BI M A y.v
 exact vp (y:=y) (n:=n+1) (q:=M.purge A y.v) W' hi (by omega) (by omega) (K1.imp id fun hx=>hx.more (by omega)) (by rw [K2,hd]) hM (H3.ordT 6 [2,0,3,1,4,5]) fun brk' h' hs=>go _ _ brk' _ h' W' (K3.le (by omega)) hs
theorem JR {brk:Bool} {Q:Value→Heap→Prop} (hk:y.k=3) (W:A.WF) (hst:A.steps+100000<1099511627776) (hfl:A.files.length+100000<1099511627776) (hn:n≤4500) (hn2:4096≤n) (hi:i<1000000)
  (H:aD (co f A::bp m A::PY b0 y::[old hh0]) hh) (go:xZ f m A n i (PY b0 y::[old hh0]) again) :
  yb (some ⟨f,0,none⟩) (some ⟨m,0,none⟩) b0 (s,t,brk,(i:Int)) hh again Q:=by
 have T:=AF.sG dS W
 unfold yb
 dsimp only
 refine dY (H.mv 2) rfl ?_
 rw [iW (show ¬ y.k=0 by omega),aa]
 refine dY (H.mv 2) rfl ?_
 rw [iW (show ¬ y.k=1 by omega),aa]
 refine dY (H.mv 2) rfl ?_
 rw [iW (show ¬ y.k=2 by omega),aa]
 refine dY (H.mv 2) rfl ?_
 rw [jX hk,ab]
 refine (uV (dir:=dS) W (by omega) (by decide) H).mono ?_
 rintro v h1 ⟨W',(⟨b,M,hM,rfl,H1⟩ | ⟨e,hM,e0,rfl,H1⟩)⟩
 · refine ⟨_,_,rfl,?_⟩;refine (oE (dir:=dS) W T.1 (by omega) (by omega) (H1.mv 2)).mono ?_;rintro v h2 (⟨r,M2,hM2,rfl,H2⟩ | ⟨e,hM2,_⟩)
   rotate_left
   · rw [hM] at hM2; cases hM2
   rw [hM] at hM2;cases hM2;obtain ⟨O,hd⟩:=vN T.1 hM;refine ⟨_,_,rfl,?_⟩;rw [bne_self_eq_false,aa];exact mg (e:=0) (y:=y) (n:=n+1) W' hi (O.more (by omega)) hd (by omega) (H2.ordT 6 [2,0,3,1,4,5]) fun brk' h' hs=>go _ _ brk' _ h' W' (T.2.le (by omega)) hs
 · refine ⟨_,_,rfl,?_⟩;refine (oE (dir:=dS) W T.1 (by omega) (by omega) (H1.mv 1)).mono ?_;rintro v h2 (⟨r,M2,hM2,_⟩ | ⟨e2,hM2,_,rfl,H2⟩)
   · rw [hM] at hM2; cases hM2
   rw [hM] at hM2;cases hM2;refine ⟨_,_,rfl,?_⟩;rw [bne_self_eq_false,aa,bo e0];exact sn (y:=y) W' hi (H2.ordT 4 [1,0,2,3]) fun h' H'=>go _ _ true _ h' W' (T.2.le (by omega)) (.inl ⟨rfl,H'⟩)
end
open AF (bA dq bm cu fe gw)
namespace Ex
def A0:AF.FS:=⟨1000,0,none,false,[],[]⟩
def M0:bA:=⟨dS,[],[],[]⟩
def M1:bA:=⟨dS,[(0,[120])],[],[]⟩
def M2:bA:=⟨dS,[(0,[120]),(1,[121])],[],[]⟩
def LN:bA:=⟨dS,[(0,[120]),(1,[121])],[(0,())],[(0,[120])]⟩
def M3:bA:=⟨dS,[(1,[121])],[(0,())],[(0,[120])]⟩
def n0:List Nat:=[1,16,48,48,48,48,48,48,48,48,48,48,48,48,48,48,48,48,1,120]
def A1:AF.FS:=(gw A0 dS).1
def A2:AF.FS:=(M0.put A1 0 [120]).1
def A3:AF.FS:=(M1.put A2 1 [121]).1
def A4:AF.FS:=(LN.remove (A3.put dS (cu 102 0) n0).1 (lj 0)).1
theorem Gj:(gw A0 dS).2=.ok M0:=by kernel_rfl
theorem JE:(M0.put A1 0 [120]).2=(M1,0):=by kernel_rfl
theorem JD:(M1.put A2 1 [121]).2=(M2,0):=by kernel_rfl
theorem LV:(A3.put dS (cu 102 0) n0).2=0:=by kernel_rfl
theorem LU:(LN.remove (A3.put dS (cu 102 0) n0).1 (lj 0)).2=(M3,0):=by kernel_rfl
theorem LW:M3.put A4 1 [122]=(A4,M3,90):=by kernel_rfl
theorem wd (s:List Nat) (h:s.length<128):dV s=s.length::s:=by unfold dV; rw [gG h]; rfl
theorem NE:AF.bC [(0,[120])]=n0:=by
 show gd 1++[(sb (AF.lK 0),[120])].flatMap gM=n0
 rw [gG (by decide),show sb (AF.lK 0)=[48,48,48,48,48,48,48,48,48,48,48,48,48,48,48,48] from by kernel_rfl]
 show [1]++(dV [48,48,48,48,48,48,48,48,48,48,48,48,48,48,48,48]++dV [120]++[])=n0
 rw [wd _ (by decide),wd _ (by decide)]
 rfl
theorem J5:M2.fold A3 0=(A4,M3,0):=by
 have e1:(M2.entries.filter fun p=>decide (p.1≤max 0 (bm M2.Fo)))=[(0,[120])]:=by kernel_rfl
 have e2:bm ([(0,[120])]:fe)=0:=by kernel_rfl
 have e3:(M2.entries.filter fun p=>decide (p.1≤0))=[(0,[120])]:=by kernel_rfl
 have e4:bR 0 () M2.Fo=[(0,())]:=by kernel_rfl
 have e5:bm M2.Fo = -1:=by kernel_rfl
 unfold AF.bA.fold
 dsimp only
 rw [e1,e2,ak (by decide),ak (by rw [e5]; intro h; exact absurd h.1 (by decide)),NE,ak (by decide),show M2.dir=dS from rfl,ak (by rw [LV]; decide),e3,e4]
 show LN.remove (A3.put dS (cu 102 0) n0).1 (lj 0)=_
 have:=LU
 generalize hq:LN.remove (A3.put dS (cu 102 0) n0).1 (lj 0)=q at this
 have e6:A4=q.1:=by
  unfold A4;rw [hq]
 rw [e6,← this]
theorem Mi:A1.steps+100<1099511627776:=of_decide_eq_true (by kernel_rfl)
theorem ND:A2.steps+100<1099511627776:=of_decide_eq_true (by kernel_rfl)
theorem Mh:A3.steps+100<1099511627776:=of_decide_eq_true (by kernel_rfl)
theorem NC:A4.steps+100<1099511627776:=of_decide_eq_true (by kernel_rfl)
theorem lV {x:Nat} (h:x<256):B8 [x]:=fun n hn=>by
 rw [List.mem_singleton.1 hn]
 exact h
theorem Ef:∀ p∈M2.entries,Ae p:=fun p hp=>by
 have e:M2.entries=[(0,[120]),(1,[121])]:=by kernel_rfl
 rw [e] at hp
 simp only [ay,List.mem_nil_iff,or_false] at hp
 rcases hp with rfl | rfl
 · exact ⟨⟨by decide,by decide⟩,lV (by decide),by decide⟩
 · exact ⟨⟨by decide,by decide⟩,lV (by decide),by decide⟩
theorem JQ:M2.entries.length=2:=by kernel_rfl
theorem Nx:oG M2.entries=82:=by kernel_rfl
theorem Hb:M3.get 0=some [120]:=by kernel_rfl
theorem L3:M3.get 1=some [121]:=by kernel_rfl
theorem J1:M1.get 1=none:=by kernel_rfl
theorem J4:M0.get 0=none:=by kernel_rfl
theorem LY:M3.entries.length=2:=by kernel_rfl
end Ex
open Ex
section
variable {F:List aE} {h:Heap}
theorem CD (H:aD F h):aC prog 8 [] h fun v h'=>v=.bool true∧aD F h':=by
 apply Kp.ap
 unfold F8
 refine (yY (room:=1000) H (by decide)).mono ?_
 rintro v h1 ⟨fb,rfl,H1⟩
 refine ⟨some ⟨fb,0,none⟩,0,rfl,?_⟩
 rw [show ((0:Int)!=0)=false from rfl,aa,show (some (⟨fb,0,none⟩:Addr)).isNone=false from rfl,aa]
 have W0:A0.WF:=BS (by decide)
 refine (uV (A:=A0) (dir:=dS) W0 (by decide) (by decide) H1).mono ?_
 rintro v h2 ⟨W1,⟨b,M,hM,rfl,H2⟩ | ⟨e,hM,_⟩⟩
 rotate_left
 · rw [Gj] at hM; cases hM
 rw [Gj] at hM
 cases hM
 refine ⟨some ⟨b,0,none⟩,0,rfl,?_⟩
 rw [show ((0:Int)!=0)=false from rfl,aa,show (some (⟨b,0,none⟩:Addr)).isNone=false from rfl,aa]
 have W1':A1.WF:=W1
 have H2':aD (cP b fb M0::co fb A1::F) h2:=H2
 refine aQ H2' fun p0 h3 H3=>?_
 refine j2 AZ (by kernel_rfl) H3 fun h4 H4=>?_
 rw [aF]
 refine (oF (id:=0) (bs:=[120]) W1' (by have:=Mi; omega) (by decide) (fun x hx=>by rw [J4] at hx; cases hx) (fun h' hh=>ln hh rfl) (lV (by decide)) rfl (by decide) (H4.ordT 3 [1,2,0])).mono ?_
 rintro v h5 ⟨rfl,W2,_,H5⟩
 rw [show (M0.put A1 0 [120]).2.1=M1 from congrArg Prod.fst JE,show (M0.put A1 0 [120]).1=A2 from rfl] at H5
 rw [show (M0.put A1 0 [120]).2.2=0 from congrArg Prod.snd JE,aJ,show (((0:Nat):Int)!=0)=false from rfl,aa]
 refine aQ H5 fun p1 h6 H6=>?_
 refine j2 AZ (by kernel_rfl) H6 fun h7 H7=>?_
 rw [aF]
 have W2':A2.WF:=W2
 refine (oF (id:=1) (bs:=[121]) W2' (by have:=ND; omega) (by decide) (fun x hx=>by rw [J1] at hx; cases hx) (fun h' hh=>ln hh rfl) (lV (by decide)) rfl (by decide) (H7.ordT 3 [1,2,0])).mono ?_
 rintro v h8 ⟨rfl,W3,_,H8⟩
 rw [show (M1.put A2 1 [121]).2.1=M2 from congrArg Prod.fst JD,show (M1.put A2 1 [121]).1=A3 from rfl] at H8
 rw [show (M1.put A2 1 [121]).2.2=0 from congrArg Prod.snd JD,aJ,show (((0:Nat):Int)!=0)=false from rfl,aa]
 have W3':A3.WF:=W3
 refine (w7 (upto:=0) W3' (by have:=Mh; show A3.steps+2+0+30<_; omega) (by decide) (fun p hp=>⟨(Ef p hp).1.1,(Ef p hp).2.1,by have:=(Ef p hp).2.2; omega⟩) (by rw [JQ]; decide) (fun mx=>?_) H8).mono ?_
 · have h1:=oS (E:=dW M2.entries mx) (fun p hp=>(Ef p (List.mem_filter.1 hp).1).2.2) (by
    have:=length_filter_le (fun p=>decide (p.1≤mx)) M2.entries;have e:dW M2.entries mx=M2.entries.filter fun p=>decide (p.1≤mx):=rfl;rw [e];rw [JQ] at this;omega)
   have h2:=kG (fun p=>decide (p.1≤mx)) M2.entries;have e:dW M2.entries mx=M2.entries.filter fun p=>decide (p.1≤mx):=rfl;rw [← e,Nx] at h2;omega
 rintro v h9 ⟨rfl,W4,_,H9⟩
 rw [J5] at H9 W4 ⊢
 have W4':A4.WF:=W4
 have H9':aD (cP b fb M3::co fb A4::_) h9:=H9
 rw [aJ,show (((0:Nat):Int)!=0)=false from rfl,aa]
 refine aQ H9' fun p2 h10 H10=>?_
 refine j2 AZ (by kernel_rfl) H10 fun h11 H11=>?_
 rw [aF]
 refine (oF (id:=1) (bs:=[122]) W4' (by have:=NC; omega) (by decide) (fun x hx=>by rw [L3] at hx; cases hx; exact lV (by decide)) (fun h' hh=>ln hh rfl) (lV (by decide)) rfl (by decide) (H11.ordT 3 [1,2,0])).mono ?_
 rintro v h12 ⟨rfl,_,_,H12⟩
 rw [LW] at H12 ⊢
 rw [aJ,show (((90:Nat):Int)!=90)=false from rfl,aa]
 refine (w6 (id:=0) (fun y hy=>by rw [Hb] at hy; cases hy; decide) H12).mono ?_
 rintro v h13 (⟨hno,_⟩ | ⟨y,ga,gc,hy,rfl,H13⟩)
 · rw [Hb] at hno; cases hno
 rw [Hb] at hy
 cases hy
 refine ⟨ga,1,gc,0,rfl,?_⟩
 rw [show ((0:Int)==0)=true from rfl,ab]
 refine ⟨bT [120],ct (aH H13) rfl (lV (by decide)),?_⟩
 rw [show cv (bT [120]) ⟨#[120]⟩=true from by rw [fZ,bM (lV (by decide))]; rfl,ab]
 refine (xe (H13.mv 1)).mono ?_
 rintro v h14 ⟨rfl,H14⟩
 rw [aJ,LY]
 exact ⟨rfl,H14.rest 6⟩
end
open AF (bA dq bm cu fe gw Gr)
section
variable {f m b0 n i:Nat} {A:AF.FS} {y:Af} {hh hh0:Heap} {s t:Option Addr} {brk:Bool} {again:Option Addr×Option Addr×Bool×Int→Heap→Prop}
set_option maxHeartbeats 4000000 in
theorem Gn {X:List aE} {Q:Value→Heap→Prop} (hk:¬ y.k=0∧¬ y.k=1∧¬ y.k=2∧¬ y.k=3) (W:A.WF) (hst:A.steps+100000<1099511627776) (hfl:A.files.length+100000<1099511627776) (hn:n≤4500) (hi:i<1000000) (hy:ma hh0 y.fs) (hL:wB y.fs)
  (hX:(brk=true∧X=[])∨(brk=false∧∃ b r M,s=some ⟨b,0,none⟩∧t=some ⟨r,0,none⟩∧jT n M∧M.dir=dS∧X=[cP b f M,fh r m M]))
  (H:aD (co f A::bp m A::PY b0 y::old hh0::X) hh) (go:xZ f m A n i (PY b0 y::[old hh0]) again) :
  yb (some ⟨f,0,none⟩) (some ⟨m,0,none⟩) b0 (s,t,brk,(i:Int)) hh again Q:=by
 obtain ⟨k0,k1,k2,k3⟩:=hk
 have hLd:=hL.dir
 have hLn:=hL.name
 have hLb:=hL.b
 unfold yb
 dsimp only
 have HP:=H.mv 2
 refine dY HP rfl ?_
 rw [iW k0,aa]
 refine dY HP rfl ?_
 rw [iW k1,aa]
 refine dY HP rfl ?_
 rw [iW k2,aa]
 refine dY HP rfl ?_
 rw [iW k3,aa]
 simp only [dC]
 obtain ⟨turn,hturn⟩:∃ t:Nat,y.fs.turn=(t:Int):=⟨y.fs.turn.toNat,by have:=hy.turn.1; omega⟩
 have ht:turn<256:=by have:=hy.turn.2; omega
 obtain ⟨ps,hpr,hpl,hpc,hpm⟩:=hy.picks
 refine gA (v:=.int .i64 y.fs.k) HP rfl (gA (v:=.string y.fs.dir) HP rfl (gA (v:=.string y.fs.name) HP rfl (gA (v:=.string y.fs.b) HP rfl (gA (v:=.int .i64 y.fs.n) HP rfl (gA (v:=.int .u8 y.fs.turn) HP rfl (gA (v:=.slice y.fs.pa y.fs.pl y.fs.pc) HP rfl ?_))))))
 refine ⟨y.fs.k,y.fs.dir,y.fs.name,y.fs.b,y.fs.n,y.fs.turn,y.fs.pa,y.fs.pl,y.fs.pc,rfl,?_⟩
 refine gA (v:=.int .i64 y.fs.k) HP rfl (gA (v:=.string y.fs.dir) HP rfl (gA (v:=.string y.fs.name) HP rfl (gA (v:=.string y.fs.b) HP rfl (gA (v:=.int .i64 y.fs.n) HP rfl (gA (v:=.int .u8 y.fs.turn) HP rfl (gA (v:=.slice y.fs.pa y.fs.pl y.fs.pc) HP rfl ?_))))))
 refine ⟨y.fs.k,y.fs.dir,y.fs.name,y.fs.b,y.fs.n,y.fs.turn,y.fs.pa,y.fs.pl,y.fs.pc,rfl,?_⟩
 have hp1:uR (bp m A::PY b0 y::old hh0::X) ps y.fs.pa y.fs.pl y.fs.pc:=⟨hpl,hpc,fun h' hx=>hpr.old (hx.mv 2)⟩
 rw [hturn]
 refine (C6 (k:=y.fs.k) (dir:=y.fs.dir) (name:=y.fs.name) (b:=y.fs.b) (n:=y.fs.n) (turn:=turn) W (by omega) (by omega) (by omega) (by omega) ht hy.n.2 hp1 H).mono ?_
 rintro v h1 ⟨rfl,H1⟩
 rw [aJ]
 have HC:=H1.mv 2
 rw [← hturn]
 refine ⟨rfl,rfl,gA (v:=.int .i64 y.fs.k) HC rfl (gA (v:=.string y.fs.dir) HC rfl (gA (v:=.string y.fs.name) HC rfl (gA (v:=.string y.fs.b) HC rfl (gA (v:=.int .i64 y.fs.n) HC rfl (gA (v:=.int .u8 y.fs.turn) HC rfl (gA (v:=.slice y.fs.pa y.fs.pl y.fs.pc) HC rfl ⟨y.fs.k,y.fs.dir,y.fs.name,y.fs.b,y.fs.n,y.fs.turn,y.fs.pa,y.fs.pl,y.fs.pc,rfl,rfl⟩)))))),?_⟩
 have hp2:uR (co f (A.act y.fs.k y.fs.dir y.fs.name y.fs.b y.fs.n turn ps).1::PY b0 y::old hh0::X) ps y.fs.pa y.fs.pl y.fs.pc:=⟨hpl,hpc,fun h' hx=>hpr.old (hx.mv 2)⟩
 rw [hturn]
 refine (C5 (k:=y.fs.k) (dir:=y.fs.dir) (name:=y.fs.name) (b:=y.fs.b) (n:=y.fs.n) (turn:=turn) W (by omega) (by omega) (by omega) ht hp2 (H1.mv 1)).mono ?_
 rintro v h2 ⟨rfl,H2⟩
 have W':=W.act (k:=y.fs.k) (dir:=y.fs.dir) (name:=y.fs.name) (b:=y.fs.b) (ps:=ps) hy.n.2 ht
 have G1:AF.Gr 1 A (A.act y.fs.k y.fs.dir y.fs.name y.fs.b y.fs.n turn ps).1:=AF.d8.act
 generalize hact:A.act y.fs.k y.fs.dir y.fs.name y.fs.b y.fs.n turn ps=q at *
 rw [aJ,bne_self_eq_false,aa,show ((0:Int)!=0)=false from rfl,aa]
 rcases hX with ⟨rfl,rfl⟩ | ⟨rfl,b,r,M,rfl,rfl,O,hd,rfl⟩
 · exact sn (y:=y) W' hi (H2.ordT 4 [1,0,2,3]) fun h' H'=>go _ _ true _ h' W' (G1.le (by decide)) (.inl ⟨rfl,H'⟩)
 · have Hs:aD (cP b f M::fh r m M::co f q.1::bp m q.1::PY b0 y::[old hh0]) h2:=H2.ordT 6 [4,5,1,0,2,3];exact mg (e:=0) (y:=y) (n:=n+1) W' hi (O.more (by omega)) hd (by omega) Hs fun brk' h' hs=>go _ _ brk' _ h' W' (G1.le (by decide)) hs
theorem SI.all {G:List aE} (H:SI f m s t brk A n G hh):aD (co f A::bp m A::G) hh:=by
 rcases H with ⟨_,H⟩ | ⟨_,b,r,M,_,_,_,_,H⟩
 · exact H
 · exact H.drop.drop
theorem BX {Q:Value→Heap→Prop} (W:A.WF) (hst:A.steps+100000<1099511627776) (hfl:A.files.length+100000<1099511627776) (hn:n≤4500) (hn2:4096≤n) (hi:i<1000000) (hy:ma hh0 y.fs) (hL:wB y.fs)
  (hnb:0≤y.k→y.k<3→brk=false) (HI:SI f m s t brk A n (PY b0 y::[old hh0]) hh) (go:xZ f m A n i (PY b0 y::[old hh0]) again) :
  yb (some ⟨f,0,none⟩) (some ⟨m,0,none⟩) b0 (s,t,brk,(i:Int)) hh again Q:=by
 by_cases k3:y.k=3
 · exact JR k3 W hst hfl hn hn2 hi HI.all go
 by_cases hk:0≤y.k∧y.k<3
 · have hb:=hnb hk.1 hk.2
   rcases HI with ⟨h1,_⟩ | ⟨_,b,r,M,rfl,rfl,O,hd,H⟩
   · rw [hb] at h1; cases h1
   subst hb;by_cases k0:y.k=0
   · exact JU k0 W hst hfl hn hi hL O hd H go
   by_cases k1:y.k=1
   · exact JT k1 W hst hfl hn hi O hd H go
   · exact JS (by omega) W hst hfl hn hi O hd H go
 · have hks:¬ y.k=0∧¬ y.k=1∧¬ y.k=2∧¬ y.k=3:=by omega
   rcases HI with ⟨h1,H⟩ | ⟨h1,b,r,M,e1,e2,O,hd,H⟩
   · exact Gn (X:=[]) hks W hst hfl hn hi hy hL (.inl ⟨h1,rfl⟩) H go
   · exact Gn (X:=[cP b f M,fh r m M]) hks W hst hfl hn hi hy hL (.inr ⟨h1,b,r,M,e1,e2,O,hd,rfl⟩) (H.ordT 6 [2,3,4,5,0,1]) go
theorem SI.frame {O:aE} (HI:SI f m s t brk A n [O] hh):∃ Z,aD (O::Z) hh∧∀ (P:aE) h',aD (P::O::Z) h'→SI f m s t brk A n [P,O] h':=by
 rcases HI with ⟨h1,H⟩ | ⟨h1,b,r,M,e1,e2,O1,hd,H⟩
 · exact ⟨[co f A,bp m A],H.ordT 3 [2,0,1],fun P h' H'=>.inl ⟨h1,H'.ordT 4 [2,3,0,1]⟩⟩
 · exact ⟨[cP b f M,fh r m M,co f A,bp m A],H.ordT 5 [4,0,1,2,3],fun P h' H'=>.inr ⟨h1,b,r,M,e1,e2,O1,hd,H'.ordT 6 [2,3,4,5,0,1]⟩⟩
theorem SI.drop {P O:aE} (HI:SI f m s t brk A n [P,O] hh):SI f m s t brk A n [O] hh:=by
 rcases HI with ⟨h1,H⟩ | ⟨h1,b,r,M,e1,e2,O1,hd,H⟩
 · exact .inl ⟨h1,H.ordT 4 [0,1,3]⟩
 · exact .inr ⟨h1,b,r,M,e1,e2,O1,hd,H.ordT 6 [0,1,2,3,5]⟩
theorem SI.more {G:List aE} (HI:SI f m s t brk A n G hh):SI f m s t brk A (n+1) G hh:=by
 rcases HI with ⟨h1,H⟩ | ⟨h1,b,r,M,e1,e2,O1,hd,H⟩
 · exact .inl ⟨h1,H⟩
 · exact .inr ⟨h1,b,r,M,e1,e2,O1.more (by omega),hd,H⟩
end
theorem NB {F:List aE} {b:Nat} {e:TypeId} {a0 a1 a2 a3 a4 a5 a6 a7 a8 b0 b1 b2 b3 b4 b5 b6 b7 b8:Value} {h0:Heap} {K:Heap→Prop} (H0:aD (pt b (.cells #[a0,a1,a2,a3,a4,a5,a6,a7,a8] e (0,0))::F) h0) (hK:∀ h',aD (pt b (.cells #[b0,b1,b2,b3,b4,b5,b6,b7,b8] e (0,0))::F) h'→K h') :
  bz h0 ((Addr.mk b 0 none).add 0) b0 fun h1=>bz h1 ((Addr.mk b 0 none).add 1) b1 fun h2=>bz h2 ((Addr.mk b 0 none).add 2) b2 fun h3=>bz h3 ((Addr.mk b 0 none).add 3) b3 fun h4=>bz h4 ((Addr.mk b 0 none).add 4) b4 fun h5=>bz h5 ((Addr.mk b 0 none).add 5) b5 fun h6=>bz h6 ((Addr.mk b 0 none).add 6) b6 fun h7=>bz h7 ((Addr.mk b 0 none).add 7) b7 fun h8=>bz h8 ((Addr.mk b 0 none).add 8) b8 fun h9=>K h9:=by
 refine bQ H0 (show (0:Nat)<9 by decide) rfl fun h1 G1=>?_
 have H1:aD (pt b (.cells #[b0,a1,a2,a3,a4,a5,a6,a7,a8] e (0,0))::F) h1:=G1
 clear G1 H0
 refine bQ H1 (show (1:Nat)<9 by decide) rfl fun h2 G2=>?_
 have H2:aD (pt b (.cells #[b0,b1,a2,a3,a4,a5,a6,a7,a8] e (0,0))::F) h2:=G2
 clear G2 H1
 refine bQ H2 (show (2:Nat)<9 by decide) rfl fun h3 G3=>?_
 have H3:aD (pt b (.cells #[b0,b1,b2,a3,a4,a5,a6,a7,a8] e (0,0))::F) h3:=G3
 clear G3 H2
 refine bQ H3 (show (3:Nat)<9 by decide) rfl fun h4 G4=>?_
 have H4:aD (pt b (.cells #[b0,b1,b2,b3,a4,a5,a6,a7,a8] e (0,0))::F) h4:=G4
 clear G4 H3
 refine bQ H4 (show (4:Nat)<9 by decide) rfl fun h5 G5=>?_
 have H5:aD (pt b (.cells #[b0,b1,b2,b3,b4,a5,a6,a7,a8] e (0,0))::F) h5:=G5
 clear G5 H4
 refine bQ H5 (show (5:Nat)<9 by decide) rfl fun h6 G6=>?_
 have H6:aD (pt b (.cells #[b0,b1,b2,b3,b4,b5,a6,a7,a8] e (0,0))::F) h6:=G6
 clear G6 H5
 refine bQ H6 (show (6:Nat)<9 by decide) rfl fun h7 G7=>?_
 have H7:aD (pt b (.cells #[b0,b1,b2,b3,b4,b5,b6,a7,a8] e (0,0))::F) h7:=G7
 clear G7 H6
 refine bQ H7 (show (7:Nat)<9 by decide) rfl fun h8 G8=>?_
 have H8:aD (pt b (.cells #[b0,b1,b2,b3,b4,b5,b6,b7,a8] e (0,0))::F) h8:=G8
 clear G8 H7
 refine bQ H8 (show (8:Nat)<9 by decide) rfl fun h9 G9=>?_
 have H9:aD (pt b (.cells #[b0,b1,b2,b3,b4,b5,b6,b7,b8] e (0,0))::F) h9:=G9
 clear G9 H8
 exact hK _ H9
set_option maxHeartbeats 2000000 in
theorem se {room:Nat} {a:Option Addr} {l c:Nat} {acts:List ox} (h:Heap) (hroom:room<65536) (HA:ld h a 2 acts) (hl:acts.length=l) (hm:l≤maxLen):aC prog 7 [.int .u16 (room:Int),.slice a l c] h (Cw h):=by
 apply HM.ap
 unfold Mv
 refine (CD (D6 h)).mono ?_
 rintro v h0 ⟨rfl,H0⟩
 rw [cd,az,aa,IntWalk.i64_in (room:Int) (by omega)]
 refine (yY (room:=room) H0 (by omega)).mono ?_
 rintro v h1 ⟨f,rfl,H1⟩
 refine ⟨some ⟨f,0,none⟩,0,rfl,?_⟩
 refine (Db (room:=room) H1 (by omega)).mono ?_
 rintro v h2 ⟨m,rfl,H2⟩
 refine ⟨some ⟨m,0,none⟩,0,rfl,?_⟩
 have W0:AF.FS.WF ⟨room,0,none,false,[],[]⟩:=BS (by omega)
 generalize hA0:(⟨room,0,none,false,[],[]⟩:AF.FS)=A0 at *
 have hs0:A0.steps=0:=by rw [← hA0]
 have hf0:A0.files.length=0:=by rw [← hA0]; rfl
 have T:=AF.sG dS W0
 have g1:(gw A0 dS).1.steps≤A0.steps+4098:=T.2.1
 have g2:(gw A0 dS).1.files.length≤A0.files.length+4098:=T.2.2
 have loop:∀ (s t:Option Addr) (brk:Bool) (A:AF.FS) (hh:Heap),A.WF→A.steps≤20000→A.files.length≤20000→SI f m s t brk A 4096 [old h] hh→
   Mc (some ⟨f,0,none⟩) (some ⟨m,0,none⟩) a l (s,t,brk,(0:Int)) hh (Cw h):=by
  intro s t brk A hh W hst hfl HI;unfold Mc;refine aZ.upto l (fun i (st:Option Addr×Option Addr×Bool×Int) h'=>st.2.2.2=(i:Int)∧i≤l∧i≤80∧∃ A:AF.FS,A.WF∧A.steps≤20000*(i+1)∧A.files.length≤20000*(i+1)∧SI f m st.1 st.2.1 st.2.2.1 A (4096+i) [old h] h') (fun st=>((l:Int) - st.2.2.2).toNat)
   (by rintro i st h' ⟨e,hi,_⟩; rw [e]; exact ⟨hi,by omega⟩) ⟨rfl,au _,au _,A,W,by omega,by omega,HI⟩ ?_ ?_
  rotate_left
  · rintro ⟨s,t,brk,j⟩ h4 again ⟨rfl,hi,_,A,W,_,_,HI⟩;dsimp only;rw [ae (by omega),aa];exact uB (HI.all.mv 2)
  rintro i ⟨s,t,brk,j⟩ h4 again hlt ⟨rfl,hi,h80,A,W,hst,hfl,HI⟩ hagain;dsimp only at HI ⊢;rw [af (show ((i:Int)<(l:Int)) by omega),ab]
  rcases Nat.lt_or_ge i 80 with h1c | h1c
  rotate_left
  · rw [ae (show ¬ ((i:Int)<80) by omega),aa];exact uB (HI.all.mv 2)
  rw [af (show ((i:Int)<80) by omega),ab];obtain ⟨⟨zs,y0⟩,hx⟩:∃ x,acts[i]? = some x:=⟨_,ah (by omega)⟩
  obtain ⟨hok,_⟩:=HA i _ hx;obtain ⟨kk,vv,rfl⟩:∃ k v,zs=[k,v]:=by
   have h2:zs.length=2:=hok.len
   match zs,h2 with
   | [k,v],_=>exact ⟨k,v,rfl⟩
  have hy:ma h y0:=hok.act;obtain ⟨Z,H4,toSI⟩:=HI.frame;refine (HA.old H4).at hl hx fun ba hba hc=>?_;refine ⟨_,hc 0 _ rfl,_,hc 1 _ rfl,_,hc 2 _ rfl,_,hc 3 _ rfl,_,hc 4 _ rfl,_,hc 5 _ rfl,_,hc 6 _ rfl,_,hc 7 _ rfl,_,hc 8 _ rfl,?_⟩;refine ⟨kk,vv,y0.k,y0.dir,y0.name,y0.b,y0.n,y0.turn,y0.pa,y0.pl,y0.pc,rfl,?_⟩;refine aQ H4 fun b0 h5 H5=>?_;refine NB H5 fun h16 H16=>?_;generalize hyy:(⟨kk,vv,y0⟩:Af)=y;have ek:kk=y.k:=by rw [← hyy]
  have ef:y0=y.fs:=by rw [← hyy]
  have HB:aD (PY b0 y::old h::Z) h16:=by rw [← hyy]; exact H16
  rw [ef] at hy;clear H5 H16;simp only [dC];refine gA (v:=.int .i64 y.fs.k) HB rfl (gA (v:=.string y.fs.dir) HB rfl (gA (v:=.string y.fs.name) HB rfl (gA (v:=.string y.fs.b) HB rfl (gA (v:=.int .i64 y.fs.n) HB rfl (gA (v:=.int .u8 y.fs.turn) HB rfl (gA (v:=.slice y.fs.pa y.fs.pl y.fs.pc) HB rfl ?_))))));refine ⟨y.fs.k,y.fs.dir,y.fs.name,y.fs.b,y.fs.n,y.fs.turn,y.fs.pa,y.fs.pl,y.fs.pc,rfl,?_⟩;refine aQ HB fun b1 h17 H17=>?_;have H17':aD (pt b1 (.cells y.fs.arr 59 (0,0))::PY b0 y::old h::Z) h17:=H17;refine (Da (Ed H17' (hy.old (H17'.mv 2))) (l:=1) rfl (by decide)).mono ?_;rintro v h18 ⟨rfl,z,rfl,hz⟩;rw [cd]
  cases z with
  | true=>exact uB (H17'.mv 2)
  | false=>
  rw [aa];have hL:=(hz rfl).2 y.fs (List.mem_singleton.2 rfl);have HP:aD (PY b0 y::old h::Z) h18:=H17'.drop;have HS:SI f m s t brk A (4096+i) [PY b0 y,old h] h18:=toSI _ _ HP;have go:xZ f m A (4096+i) i [PY b0 y,old h] again:=fun s' t' brk' A' h' W' G' HI'=>by
   have e1:=G'.1;have e2:=G'.2;exact hagain _ _ ⟨rfl,hlt,by omega,A',W',by omega,by omega,HI'.drop⟩
  have kin:(0≤y.k→y.k<3→brk=false)→yb (some ⟨f,0,none⟩) (some ⟨m,0,none⟩) b0 (s,t,brk,(i:Int)) h18 again (Cw h):=fun hnb=>
   BX W (by omega) (by omega) (by omega) (by omega) (by omega) hy hL hnb HS go
  refine dY HP rfl ?_;by_cases hk0:0≤y.k
  · rw [af (show y.k≥0 from hk0),ab];refine dY HP rfl ?_;by_cases hk3:y.k<3
    · rw [af hk3,ab]
      cases hb:brk with
      | true=>
        rw [ab,aK (by omega)];rw [hb] at HS;exact go s t true A _ W (AF.Gr.same _ A) HS.more
      | false=>
        rw [aa];rw [hb] at kin;exact kin fun _ _=>rfl
    · rw [ae hk3,aa];exact kin fun _ h=>absurd h hk3
  · rw [ae (show ¬ y.k≥0 from hk0),aa];exact kin fun h _=>absurd h hk0
 refine (uV (dir:=dS) W0 (by omega) (by decide) (H2.mv 1)).mono ?_
 rintro v h3 ⟨W',(⟨b,M,hM,rfl,H3⟩ | ⟨e,hM,e0,rfl,H3⟩)⟩
 · refine ⟨some ⟨b,0,none⟩,0,rfl,?_⟩;refine (oE (dir:=dS) W0 T.1 (by omega) (by omega) (H3.mv 2)).mono ?_;rintro v h4 (⟨r,M2,hM2,rfl,H4⟩ | ⟨e,hM2,_⟩)
   rotate_left
   · rw [hM] at hM2; cases hM2
   rw [hM] at hM2;cases hM2;obtain ⟨O,hd⟩:=vN T.1 hM;refine ⟨some ⟨r,0,none⟩,0,rfl,?_⟩;rw [show ((0:Int)!=0)=false from rfl,aa];exact loop _ _ false _ h4 W' (by omega) (by omega) (.inr ⟨rfl,b,r,M,rfl,rfl,O,hd,H4.ordT 5 [2,0,3,1,4]⟩)
 · refine ⟨none,(e:Int),rfl,?_⟩;refine (oE (dir:=dS) W0 T.1 (by omega) (by omega) (H3.mv 1)).mono ?_;rintro v h4 (⟨r,M2,hM2,_⟩ | ⟨e2,hM2,_,rfl,H4⟩)
   · rw [hM] at hM2; cases hM2
   rw [hM] at hM2;cases hM2;refine ⟨none,(e:Int),rfl,?_⟩;rw [bne_self_eq_false,aa,bo e0];exact loop _ _ true _ h4 W' (by omega) (by omega) (.inl ⟨rfl,H4.ordT 3 [1,0,2]⟩)
end Go.Proofs.YtmemjbiijclbdaaGreat
