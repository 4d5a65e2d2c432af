/- Part 38 of the proof of rtrees_card; no conditions. -/
import Derived.Test.YtgcfjkfipkfijaaGreatDoorTr01
import Derived.Test.YtgcfjkfipkfijaaGreatDoorTr17
import Derived.Test.YtgcfjkfipkfijaaGreatDoorTr15
import Derived.Test.YtgcfjkfipkfijaaGreatDoorTr23
import Derived.Test.YtgcfjkfipkfijaaGreatDoorTr36
import Derived.Test.YtgcfjkfipkfijaaGreatDoorTr37
import Derived.Laws.MakeOwn
set_option maxRecDepth 100000
set_option maxHeartbeats 16000000
namespace Go.Proofs.YtgcfjkfipkfijaaGreatDoor
open Go Go.RowKit Go.Lib _root_.Go.Proofs.Tryz
theorem yC (p):cP p=1+oQ (aY p):=by
 cases p with
 | row k us kids=>rw [cP];rfl
 | choice e a b=>simp only [cP,oQ,aY];omega
 | step nm al=>simp only [cP,oQ,aY]
theorem Cu (p):1≤cP p:=by rw [yC];omega
def yD (l:List Nd):List Int:=l.flatMap (·.kids)
theorem Ty (a b):yD (a++b)=yD a++yD b:=by unfold yD;rw [q_]
theorem Mh {N} (h:∀p,cP p≤N→∀b j:Int,(yD (cX b p)).count j=if b<j∧j<b+cP p then 1 else 0) :
  ∀ps,oQ ps≤N→∀b j:Int,(yD (aV b ps).1).count j+(aV b ps).2.count j=if b≤j∧j<b+oQ ps then 1 else 0
 | [],_,b,j=>by
  rw [dR,oQ,K_ (by omega)]
  rfl
 | p::ps,hN,b,j=>by
  rw [oQ] at hN
  have h1:=h p (by omega) b j
  have h2:=Mh h ps (by omega) (b+(cX b p).length) j
  have h3:=Cu p
  rw [cH,oQ]
  simp only [Ty,List.count_append,List.count_cons]
  rw [mY] at h2 ⊢
  by_cases hb:b=j
  ·subst hb
   rw [K_ (by omega)] at h1 h2
   rw [M_ (c:=b≤b∧b<b+((cP p+oQ ps:Nat):Int)) ⟨m_ _,by omega⟩]
   simp only [beq_self_eq_true,if_true]
   omega
  ·rw [K_ (c:=(b == j)=true) (by simpa using hb)]
   split at h1
   ·rw [K_ (by omega)] at h2
    rw [M_ (by omega)]
    omega
   ·split at h2
    ·rw [M_ (by omega)]
     omega
    ·rw [K_ (by omega)]
     omega
theorem Xn (N):∀p,cP p≤N→∀b j:Int,(yD (cX b p)).count j=if b<j∧j<b+cP p then 1 else 0:=by
 induction N with
 | zero=>intro p h;have:=Cu p;omega
 | succ N ih=>
  intro p h b j
  rw [yC] at h ⊢
  have h1:=Mh ih (aY p) (by omega) (b+1) j
  rw [nQ]
  have e:yD ({ mD p with kids:=(aV (b+1) (aY p)).2 }::(aV (b+1) (aY p)).1)=(aV (b+1) (aY p)).2++yD (aV (b+1) (aY p)).1:=by unfold yD;rw [i_]
  rw [e,List.count_append,Nat.add_comm,h1]
  split
  ·rw [M_ (by omega)]
  ·rw [K_ (by omega)]
def BG (hi:Int):Int→List Int→Prop
 | _,[]=>True
 | lo,k::ks=>lo<k∧k<hi∧BG hi k ks
theorem Ax (hi):∀(ps:List Pc) (lo b:Int),lo<b→b+oQ ps≤hi→BG hi lo (aV b ps).2
 | [],lo,b,_,_=>by rw [dR];trivial
 | p::ps,lo,b,h1,h2=>by
  rw [cH]
  rw [oQ] at h2
  have:=Cu p
  exact ⟨h1,by omega,Ax hi ps b _ (by rw [mY];omega) (by rw [mY];omega)⟩
mutual
def yT:Pc→Prop
 | .row k us kids=>((k=0∨k=1)∧us=[]∨k=2∧us≠[])∧jU kids
 | .choice _ a b=>jU a∧jU b
 | .step _ _=>True
def jU:List Pc→Prop
 | []=>True
 | p::ps=>yT p∧jU ps
end
theorem Gc:∀(a b:List Pc),jU a→jU b→jU (a++b)
 | [],_,_,h=>h
 | p::a,b,h,k=>by
  rw [jU] at h
  rw [List.cons_append,jU]
  exact ⟨h.1,Gc a b h.2 k⟩
theorem Xo {p} (h:yT p):jU (aY p):=by
 cases p with
 | row k us kids=>rw [yT] at h;exact h.2
 | choice e a b=>
  rw [yT] at h
  rw [show aY (.choice e a b)=[.row 0 [] a,.row 0 [] b] from rfl,jU,jU,jU,yT,yT]
  exact ⟨⟨.inl ⟨.inl rfl,rfl⟩,h.1⟩,⟨.inl ⟨.inl rfl,rfl⟩,h.2⟩,trivial⟩
 | step nm al=>simp only [aY,jU]
theorem yE {l nd} (hn:∀s,yT (nd s).1):∀(f:Nat) (ps:List Pc) (s:RS),jU ps→jU (dB l nd f ps s).1
 | 0,ps,s,h=>h
 | f+1,ps,s,h=>by
  rw [dB]
  split
  ·refine yE hn f _ _ (Gc _ _ h ?_)
   rw [jU,jU]
   exact ⟨hn s,trivial⟩
  ·exact h
theorem Gd {l}:∀(f:Nat) (us:List ByteArray) (s:RS),us≠[]→(fD l f us s).1≠[]
 | 0,us,s,h=>h
 | f+1,us,s,h=>by
  rw [fD]
  split
  ·exact Gd f _ _ (by simp)
  ·exact h
theorem Mi (l):∀(f:Nat) (s:RS),yT (gK l f s).1
 | 0,s=>by rw [gK,yT];trivial
 | f+1,s=>by
  have hb:∀s,jU (aL l (gK l f) s).1:=fun s=>yE (Mi l f) 30 [] _ (by rw [jU];trivial)
  rw [gK]
  unfold dI
  split
  ·simp only
   rw [yT]
   refine ⟨.inl ⟨?_,rfl⟩,hb _⟩
   split
   ·exact .inr rfl
   ·exact .inl rfl
  ·split
   ·simp only
    rw [yT]
    exact ⟨.inr ⟨rfl,Gd 8 _ _ (by simp)⟩,hb _⟩
   ·split
    ·simp only
     split
     ·simp only [yT]
      exact ⟨hb _,hb _⟩
     ·simp only [yT,jU]
      exact ⟨hb _,trivial⟩
    ·split
     ·unfold lK
      simp only [yT]
     ·simp only [yT]
def rM (look:Int→Nd) (b:Int) (xs:List Nd):Prop:=∀i (h:i<xs.length),look (b+i)=xs[i]
theorem rM.app {look b xs ys} (h:rM look b (xs++ys)):rM look b xs∧rM look (b+xs.length) ys:=by
 refine ⟨fun i hi=>?_,fun i hi=>?_⟩
 ·rw [h i (by rw [O_];omega),List.getElem_append_left hi]
 ·have h1:=h (xs.length+i) (by rw [O_];omega)
  rw [List.getElem_append_right (by omega)] at h1
  simp only [Nat.add_sub_cancel_left] at h1
  rw [←h1]
  congr 1
  omega
theorem rM.cons {look b x xs} (h:rM look b (x::xs)):look b=x∧rM look (b+1) xs:=by
 have h1:=rM.app (xs:=[x]) (ys:=xs) h
 refine ⟨?_,h1.2⟩
 have:=h1.1 0 (by simp)
 simpa using this
structure Tz (n:Int) (look:Int→Nd) (i:Int) (x:Nd):Prop where
 asc:BG n i x.kids
 two:x.kind=4→∃a b,x.kids=[a,b]∧(look a).kind=0∧(look b).kind=0
 leaf:x.kind=3→x.kids=[]
 unit:x.kind=2↔x.units≠[]
def Ju (n:Int) (look:Int→Nd) (b:Int) (xs:List Nd):Prop:=∀i (h:i<xs.length),Tz n look (b+i) xs[i]
theorem Ju.app {n look b xs ys} (h:Ju n look b xs) (k:Ju n look (b+xs.length) ys):Ju n look b (xs++ys):=fun i hi=>by
 by_cases hl:i<xs.length
 ·rw [List.getElem_append_left hl]
  exact h i hl
 ·rw [List.getElem_append_right (by omega)]
  have:=k (i - xs.length) (by rw [O_] at hi;omega)
  rwa [show b+xs.length+((i - xs.length:Nat):Int)=b+i by omega] at this
theorem Mj {n look N} (h:∀p,cP p≤N→yT p→∀b:Int,b+cP p≤n→rM look b (cX b p)→Ju n look b (cX b p)) :
  ∀ps,oQ ps≤N→jU ps→∀b:Int,b+oQ ps≤n→rM look b (aV b ps).1→Ju n look b (aV b ps).1
 | [],_,_,b,_,_=>fun i hi=>by rw [dR] at hi;exact absurd hi (by simp)
 | p::ps,hN,hk,b,hn,hs=>by
  rw [oQ] at hN hn
  rw [jU] at hk
  rw [cH] at hs ⊢
  have hs:=rM.app hs
  refine (h p (by omega) hk.1 b (by omega) hs.1).app (Mj h ps (by omega) hk.2 _ ?_ hs.2)
  rw [mY]
  omega
theorem Xp {n look} (N):∀p,cP p≤N→yT p→∀b:Int,b+cP p≤n→rM look b (cX b p)→Ju n look b (cX b p):=by
 induction N with
 | zero=>intro p h;have:=Cu p;omega
 | succ N ih=>
  intro p h hk b hn hs
  have hp:=yC p
  rw [nQ] at hs ⊢
  obtain ⟨_,hs2⟩:=hs.cons
  have hrest:=Mj ih (aY p) (by omega) (Xo hk) (b+1) (by omega) hs2
  have hhead:Tz n look b { mD p with kids:=(aV (b+1) (aY p)).2 }:=by
   refine ⟨Ax n (aY p) b (b+1) (by omega) (by omega),fun h4=>?_,fun h3=>?_,?_⟩
   ·cases p with
    | row k us kids=>
     rw [yT] at hk
     have h4:k=4:=h4
     rcases hk.1 with ⟨h | h,_⟩ | ⟨h,_⟩ <;> omega
    | choice e x y=>
     simp only [aY] at hs2 ⊢
     rw [cH,cH] at hs2
     have h1:=rM.app hs2
     have h2:=rM.app h1.2
     rw [cH,cH,dR]
     refine ⟨_,_,rfl,?_,?_⟩
     ·have h3:=h1.1
      rw [nQ] at h3
      rw [h3.cons.1]
      rfl
     ·have h3:=h2.1
      rw [nQ (b+1+(cX (b+1) (Pc.row 0 [] x)).length) (Pc.row 0 [] y)] at h3
      rw [h3.cons.1]
      rfl
    | step nm al=>exact absurd h4 (show ¬(3:Int)=4 by decide)
   ·cases p with
    | row k us kids=>
     rw [yT] at hk
     have h3:k=3:=h3
     rcases hk.1 with ⟨h | h,_⟩ | ⟨h,_⟩ <;> omega
    | choice e x y=>exact absurd h3 (show ¬(4:Int)=3 by decide)
    | step nm al=>show (aV (b+1) []).2=[];rw [dR]
   ·cases p with
    | row k us kids=>
     rw [yT] at hk
     show k=2↔us≠[]
     rcases hk.1 with ⟨h,h2⟩ | ⟨h,h2⟩
     ·exact ⟨fun e=>by omega,fun e=>absurd h2 e⟩
     ·exact ⟨fun _=>h2,fun _=>h⟩
    | choice e x y=>exact ⟨fun e=>absurd e (show ¬(4:Int)=2 by decide),fun e=>absurd rfl e⟩
    | step nm al=>exact ⟨fun e=>absurd e (show ¬(3:Int)=2 by decide),fun e=>absurd rfl e⟩
  intro i hi
  cases i with
  | zero=>simpa using hhead
  | succ i=>
   have:=hrest i (by simpa using hi)
   rw [List.getElem_cons_succ]
   rwa [show b+1+(i:Int)=b+((i+1:Nat):Int) by omega] at this
structure Ua (l:List Nd):Prop where
 node:∀i (h:i<l.length),Tz l.length (cE l) i l[i]
 one:∀j:Int,(yD l).count j=if 0<j∧j<l.length then 1 else 0
 some:1≤l.length
 most:l.length≤24
 root:(cE l 0).kind=0
theorem Ge (l):rM (cE l) 0 l:=fun i hi=>by
 unfold cE
 rw [S_,show (0+(i:Int)).toNat=i by omega,R_ hi]
 rfl
theorem Ps {ks} (hk:jU ks) (h:1+oQ ks≤24):Ua (cX 0 (.row 0 [] ks)):=by
 have hlen:=mY 0 (.row 0 [] ks)
 have hc:cP (.row 0 [] ks)=1+oQ ks:=by rw [cP]
 have hK:yT (.row 0 [] ks):=by rw [yT];exact ⟨.inl ⟨.inl rfl,rfl⟩,hk⟩
 refine ⟨fun i hi=>?_,fun j=>?_,by omega,by omega,?_⟩
 ·have:=Xp (n:=(cX 0 (.row 0 [] ks)).length) (cP (.row 0 [] ks)) _ le_ hK 0 (by omega) (Ge _) i hi
  rwa [Int.zero_add] at this
 ·rw [Xn _ _ le_,hlen,Int.zero_add]
 ·have h1:=Ge (cX 0 (.row 0 [] ks))
  rw [nQ] at h1 ⊢
  rw [h1.cons.1]
  rfl
theorem Jv {s} (h:(iF s).2.1=0):Ua (iF s).1.nodes:=by
 unfold iF at h ⊢
 simp only at h ⊢
 by_cases h0:(cI s).2.1=0
 ·rw [K_ (by omega)] at h ⊢
  have T:=Cj h0
  by_cases hr:(rW (cI s).1).2.2.2.bad=0
  ·rw [K_ (by omega)]
   generalize (cI s).1=l at T hr ⊢
   unfold rW at hr ⊢
   simp only at hr ⊢
   have hin0:iY l ⟨0,0,1⟩:=⟨by show (0:Int)≤0;omega,by show (0:Int)<_;have:=T.fin.1;omega,by show (0:Int)≤1;omega,by show (1:Int)≤27;omega,fun _=>by show (1:Int)≤24;omega⟩
   have hon4:=aQ T.fin gQ (by decide) hin0
   have hon5:=hon4.trans (cT T.fin [] hon4.1)
   have hon7:=hon5.trans (vF T.fin 6 [] _ hon5.1)
   generalize (oO l 6 [] (bG l [] (bC l gQ ⟨0,0,1⟩)).2).2=s7 at hon7 hr ⊢
   have hm7:(25:Int) - (30:Nat)≤s7.nodes:=by have:=hon7.2;simp only at this;omega
   have hno:=lN T.fin T.take 30
   have hon8:=dW T.fin hno hon7.1 hm7
   have hcnt:=gV T.fin hno (tR T.fin T.take 30) hon7.1 hm7
   have hk:jU (aL l (gK l 30) s7).1:=yE (Mi l 30) 30 [] _ (by rw [jU];trivial)
   have h8:(aL l (gK l 30) s7).2.bad=0:=by
    split at hr
    ·exact absurd hr (cK (by decide) _)
    ·exact hr
   refine Ps hk ?_
   have h1:=(hcnt h8).2
   have h2:=hon8.1.2.2.2.2 h8
   have h3:=hon7.2
   simp only at h3
   omega
  ·rw [M_ hr] at h
   exact absurd h hr
 ·rw [M_ h0] at h
  exact absurd h h0
open Classical in
theorem Pt {P Q:Nat→Prop} (x y:tL) (pA:Option Addr) (pc:Nat) (nA:Option Addr) (nc:Nat) (pA':Option Addr) (pc':Nat) (nA':Option Addr) (nc':Nat) (w:World) (ha:kI P w x pA pc nA nc) (hb:kI Q w y pA' pc' nA' nc') :
  Calls prog 11 #[iG x pA pc nA nc,iG y pA' pc' nA' nc'] w fun r w'=>r=.returned (.bool (decide (x=y)))∧Below w.heap.size w w':=by
 obtain ⟨nm,ps,ns⟩:=x
 obtain ⟨nm',ps',ns'⟩:=y
 obtain ⟨R,hR⟩:=nm_ (decide ((⟨nm,ps,ns⟩:tL)=⟨nm',ps',ns'⟩))
 rw [hR]
 have hR0:R=true↔nm=nm'∧ps=ps'∧ns=ns':=by
  rw [←hR,decide_eq_true_iff]
  simp only [tL.mk.injEq]
 have hpm:=(ha.prms.2 [] (by simp)).1
 have hpm':=(hb.prms.2 [] (by simp)).1
 have hnm:=(ha.nds.2 [] (by simp)).1
 have hnm':=(hb.nds.2 [] (by simp)).1
 have hpc:=ha.prms.1
 have hpc':=hb.prms.1
 have hnc:=ha.nds.1
 have hnc':=hb.nds.1
 simp only at hpm hpm' hnm hnm' hpc hpc' hnc hnc'
 obtain ⟨m,hm⟩:=nm_ ps.length
 obtain ⟨m',hm'⟩:=nm_ ps'.length
 obtain ⟨n,hn⟩:=nm_ ns.length
 obtain ⟨n',hn'⟩:=nm_ ns'.length
 show Calls prog 11 #[.agg #[.string nm,.slice pA ps.length pc,.slice nA ns.length nc],.agg #[.string nm',.slice pA' ps'.length pc',.slice nA' ns'.length nc']] w _
 obtain ⟨w0,hw0,hal,hx,hy⟩:=kP (w:=w) (cs:=#[.string nm,.slice pA ps.length pc,.slice nA ns.length nc]) (ds:=#[.string nm',.slice pA' ps'.length pc',.slice nA' ns'.length nc']) (t:=26) (u:=26)
 have H:Hid (aO kE P w pA pc ps∧aO kE Q w pA' pc' ps'∧aO yS P w nA nc ns∧aO yS Q w nA' nc' ns'∧ps.length=m∧ps'.length=m'∧ns.length=n∧ns'.length=n'):=hid ⟨ha.prms,hb.prms,ha.nds,hb.nds,hm,hm',hn,hn'⟩
 have HX:=hid hx
 have HY:=hid hy
 have HW0:=hid hw0
 have HAL:=hid hal
 have HR:=hid hR0
 simp only [hm,hm',hn,hn'] at hpm hpm' hnm hnm' hpc hpc' hnc hnc' hx hy HX HY HW0 ⊢
 obtain ⟨⟨x0,x1,x2⟩,_⟩:=bH hx
 obtain ⟨⟨y0,y1,y2⟩,_⟩:=bH hy
 have hlx:=aC hx
 have hly:=aC hy
 clear ha hb hx hy hw0 hal hR hR0 hm hm' hn hn'
 by_cases he:nm=nm'∧m=m'∧n=n'
 ·obtain ⟨rfl,rfl,rfl⟩:=he
  go_enter func11,ntmps11
  go_wp2_with fail
  rw [HW0.out]
  go_loopg [5] (m+1) (fun q s5 w'=>∃j:Nat,s5=.int .i64 j∧j≤m∧m - j<q∧ps.take j=ps'.take j∧Below w0.heap.size w0 w')
  case atStart=>exact ⟨0,rfl,by omega,by omega,by simp,J_ _ _⟩
  case round=>
   obtain ⟨j,rfl,hj,hjk,htk,hbw⟩:=hrel
   obtain ⟨gk,rfl⟩:=pk_ gk 1 (by omega)
   clear x0 x1 x2 y0 y1 y2 hlx hly
   have hxr:=bp_ hbw HX.out
   have hyr:=bp_ hbw HY.out
   obtain ⟨⟨x0,x1,x2⟩,_⟩:=bH hxr
   obtain ⟨⟨y0,y1,y2⟩,_⟩:=bH hyr
   have hlx:=aC hxr
   have hly:=aC hyr
   have hS:Below w.heap.size w wr:=HAL.out.trans (hbw.mono HAL.out.size)
   by_cases hlt:j<m
   ·have hix:j<ps.length:=by rw [H.out.2.2.2.2.1];exact hlt
    have hiy:j<ps'.length:=by rw [H.out.2.2.2.2.2.1];exact hlt
    obtain ⟨ad,rfl,c0,c1,c2,hcl⟩:=jR (H.out.1.below hS) j hix
    obtain ⟨bd,rfl,d0,d1,d2,hdl⟩:=jR (H.out.2.1.below hS) j hiy
    obtain ⟨a,haa⟩:=nm_ (ps[j])
    obtain ⟨b,hbb⟩:=nm_ (ps'[j])
    have HS:=hid (⟨hix,hiy,haa,hbb,htk,hbw,hS⟩:∃(h1:j<ps.length) (h2:j<ps'.length),ps[j]=a∧ps'[j]=b∧ps.take j=ps'.take j∧Below w0.heap.size w0 wr∧Below w.heap.size w wr)
    rw [haa] at c0 c1 c2
    rw [hbb] at d0 d1 d2
    obtain ⟨xn,xi,xs'⟩:=a
    obtain ⟨yn,yi,ys'⟩:=b
    simp only at c0 c1 c2 d0 d1 d2
    have hz:(j:Int)<m:=by omega
    have hz0:(0:Int)≤j:=by omega
    clear htk hbw hxr hyr haa hbb hS hix hiy
    by_cases hxy:(⟨xn,xi,xs'⟩:oF)=⟨yn,yi,ys'⟩
    ·injection hxy with e1 e2 e3
     subst e1 e2 e3
     go_wp2_with fail
     go_region
     all_goals
      go_wp2_with fail
      go_roundg gk
      case measure=>omega
      case rel=>
       obtain ⟨h1,h2,e1,e2,h4,h5,_⟩:=HS.out
       exact ⟨j+1,by go_num,by omega,by omega,gD h1 h2 h4 (e1.trans e2.symm),h5.drew⟩
    ·have HF:Hid (R=false):=hid (by
      obtain ⟨h1,h2,e1,e2,_⟩:=HS.out
      refine E_ (fun hc=>?_)
      exact pC h1 h2 (fun e=>hxy (by rw [←e1,←e2,e])) (HR.out.1 hc).2.1)
     have fin:Hid (Below w.heap.size w wr):=hid (by obtain ⟨_,_,_,_,_,_,h6⟩:=HS.out;exact h6)
     by_cases q1:xn=yn
     ·subst q1
      by_cases q2:xi=yi
      ·subst q2
       have q3:¬xs'=ys':=fun e=>hxy (by rw [e])
       clear hxy
       go_wp2_with fail
       go_region
       all_goals
        go_wp2_with fail
        go_ret
        exact ⟨by rw [HF.out];rfl,fin.out.drew⟩
      ·clear hxy
       go_wp2_with fail
       go_region
       all_goals
        go_wp2_with fail
        go_ret
        exact ⟨by rw [HF.out];rfl,fin.out.drew⟩
     ·have q4:¬xn.toList=yn.toList:=fun e=>q1 (by
       rw [Lib.toList_data,Lib.toList_data] at e
       exact ByteArray.ext (Array.toList_inj.1 e))
      clear hxy
      go_wp2_with fail
      go_region
      all_goals
       go_wp2_with fail
       go_ret
       exact ⟨by rw [HF.out];rfl,fin.out.drew⟩
   ·obtain rfl:j=m:=by omega
    have HK:=hid (kQ H.out.2.2.2.2.1 H.out.2.2.2.2.2.1 htk rfl)
    have HB:=hid hbw
    clear htk hbw hxr hyr hS
    go_wp2_with fail
    clear x0 x1 x2 y0 y1 y2 hlx hly
    go_loopg [6] (n+1) (fun q s6 w'=>∃i:Nat,s6=.int .i64 i∧i≤n∧n - i<q∧ns.take i=ns'.take i∧Below w0.heap.size w0 w')
    case atStart=>exact ⟨0,rfl,by omega,by omega,by simp,HB.out⟩
    case round=>
     obtain ⟨i,rfl,hi,hik,htk,hbw⟩:=hrel
     obtain ⟨gi,rfl⟩:=pk_ gk 1 (by omega)
     have hxr:=bp_ hbw HX.out
     have hyr:=bp_ hbw HY.out
     obtain ⟨⟨x0,x1,x2⟩,_⟩:=bH hxr
     obtain ⟨⟨y0,y1,y2⟩,_⟩:=bH hyr
     have hlx:=aC hxr
     have hly:=aC hyr
     have hS:Below w.heap.size w wr:=HAL.out.trans (hbw.mono HAL.out.size)
     by_cases hlt:i<n
     ·have hix:i<ns.length:=by rw [H.out.2.2.2.2.2.2.1];exact hlt
      have hiy:i<ns'.length:=by rw [H.out.2.2.2.2.2.2.2];exact hlt
      have hR1:=H.out.2.2.1.below hS
      have hR2:=H.out.2.2.2.1.below hS
      obtain ⟨ad,rfl⟩:=fN hR1 i hix
      obtain ⟨bd,rfl⟩:=fN hR2 i hiy
      obtain ⟨ukA,ukc,uuA,uuc,ugA,ugc,ueA,uec,⟨c0,c1,c2,c3,c4,c5,c6,c7,c8⟩,hu1,hu2,hu3,hu4,hul⟩:=eG hR1 i hix
      obtain ⟨vkA,vkc,vuA,vuc,vgA,vgc,veA,vec,⟨d0,d1,d2,d3,d4,d5,d6,d7,d8⟩,hv1,hv2,hv3,hv4,hvl⟩:=eG hR2 i hiy
      obtain ⟨a,haa⟩:=nm_ (ns[i])
      obtain ⟨b,hbb⟩:=nm_ (ns'[i])
      rw [haa] at c0 c1 c2 c3 c4 c5 c6 c7 c8 hu1 hu2 hu3 hu4
      rw [hbb] at d0 d1 d2 d3 d4 d5 d6 d7 d8 hv1 hv2 hv3 hv4
      have HC:Hid (∀W,Below wr.heap.size wr W→_):=hid (fun W hW=>Pj a b _ _ _ _ _ _ _ _ _ _ _ _ _ _ _ _ W (Qp.below ⟨hu1,hu2,hu3,hu4⟩ hW) (Qp.below ⟨hv1,hv2,hv3,hv4⟩ hW))
      obtain ⟨t,ht⟩:=nm_ (decide (a=b))
      simp only [ht] at HC
      have HS:=hid (⟨hix,hiy,haa,hbb,htk,hbw,hS,ht⟩:∃(h1:i<ns.length) (h2:i<ns'.length),ns[i]=a∧ns'[i]=b∧ns.take i=ns'.take i∧Below w0.heap.size w0 wr∧Below w.heap.size w wr∧decide (a=b)=t)
      have hz:(i:Int)<n:=by omega
      have hz0:(0:Int)≤i:=by omega
      clear hu1 hu2 hu3 hu4 hv1 hv2 hv3 hv4 hR1 hR2 htk hbw hxr hyr haa hbb hS ht hix hiy
      go_wp2_with fail
      go_cut [7] (fun s7 wx=>s7=.bool t∧Below wr.heap.size wr wx)
      case first=>
       go_region_with ((go_at_call 39;refine (HC.out _ ?_).mono ?_;(first | exact J_ _ _ | exact (J_ _ _).drew);rintro r w5 ⟨rfl,hb5⟩;have HB5:=hid hb5;clear hb5))
       all_goals
        go_wp2_with fail
        go_meet
        exact ⟨rfl,by first | exact HB5.out | exact (J_ _ _).drew.trans HB5.out⟩
      case rest=>
       obtain ⟨rfl,hbx⟩:=hcut
       have HBX:=hid hbx
       clear hbx c0 c1 c2 c3 c4 c5 c6 c7 c8 d0 d1 d2 d3 d4 d5 d6 d7 d8 x0 x1 x2 y0 y1 y2 hlx hly hul hvl
       cases t
       ·have HF:Hid (R=false):=hid (by
         obtain ⟨h1,h2,e1,e2,_,_,_,h8⟩:=HS.out
         refine E_ (fun hc=>?_)
         exact pC h1 h2 (fun e=>of_decide_eq_false h8 (by rw [←e1,←e2,e])) (HR.out.1 hc).2.2)
        have fin:Hid (Below w.heap.size w wr):=hid (by obtain ⟨_,_,_,_,_,_,h6,_⟩:=HS.out;exact h6)
        go_wp2_with fail
        go_ret
        exact ⟨by rw [HF.out];rfl,fin.out.trans (HBX.out.mono fin.out.size)⟩
       ·go_wp2_with fail
        go_roundg gi
        case measure=>omega
        case rel=>
         obtain ⟨h1,h2,e1,e2,h4,h5,_,h8⟩:=HS.out
         exact ⟨i+1,by go_num,by omega,by omega,gD h1 h2 h4 (by rw [e1,e2];exact of_decide_eq_true h8),h5.trans (HBX.out.mono h5.size)⟩
     ·obtain rfl:i=n:=by omega
      have HF:Hid (R=true):=hid (HR.out.2 ⟨by first | exact rfl | trivial,HK.out,kQ H.out.2.2.2.2.2.2.1 H.out.2.2.2.2.2.2.2 htk rfl⟩)
      have HB2:=hid hS
      clear htk hbw hxr hyr hS
      go_wp2_with fail
      go_ret
      exact ⟨by rw [HF.out];rfl,HB2.out⟩
 ·have HQ:Hid (R=false):=hid (E_ (fun hc=>he (by
   obtain ⟨h1,h2,h3⟩:=HR.out.1 hc
   exact ⟨h1,by rw [←H.out.2.2.2.2.1,←H.out.2.2.2.2.2.1,h2],by rw [←H.out.2.2.2.2.2.2.1,←H.out.2.2.2.2.2.2.2,h3]⟩)))
  have key:((nm.data.toList == nm'.data.toList)=false∧(nm.toList == nm'.toList)=false)∨nm=nm'∧(((m:Int) == m')=false∨m=m'∧((n:Int) == n')=false):=by
   by_cases e2:nm=nm'
   ·refine .inr ⟨e2,?_⟩
    by_cases e3:m=m'
    ·exact .inr ⟨e3,aW (fun e4=>he ⟨e2,e3,by omega⟩)⟩
    ·exact .inl (aW (by omega))
   ·exact .inl (jB e2)
  rcases key with ⟨t1,t3⟩ | ⟨rfl,t1 | ⟨rfl,t1⟩⟩
  all_goals
   have t2:=kH t1
   clear he
   go_enter func11,ntmps11
   go_wp2_with fail
   rw [HW0.out]
   go_ret
   exact ⟨by rw [HQ.out];rfl,HAL.out⟩
end Go.Proofs.YtgcfjkfipkfijaaGreatDoor
