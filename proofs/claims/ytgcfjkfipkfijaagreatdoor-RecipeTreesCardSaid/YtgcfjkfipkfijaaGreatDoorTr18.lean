/- Part 18 of the proof of rtrees_card; no conditions. -/
import Derived.Test.YtgcfjkfipkfijaaGreatDoorTr01
import Derived.Test.YtgcfjkfipkfijaaGreatDoorTr17
import Derived.Test.YtgcfjkfipkfijaaGreatDoorTr12
import Derived.Test.YtgcfjkfipkfijaaGreatDoorTr03
set_option maxRecDepth 100000
set_option maxHeartbeats 8000000
namespace Go.Proofs.YtgcfjkfipkfijaaGreatDoor
open Go Go.RowKit Go.Lib _root_.Go.Proofs.Tryz
theorem Wo {P l nA nc wB g f} (hf:f≤40) (hN:∀x,x∈l→qI x) (hR:aO yS P wB nA nc l) (hT:cF wB) (hK:wW l nA nc wB g f):Yj l nA nc wB g f:=by
 intro P' x kA kc uA uc gA gc eA ec k ind s v w hx hkr her h0 hk hd hi hlo hhi hp h
 obtain ⟨F,hF⟩:=nm_ (pW l (eF l (bY l f)) x k ind s)
 rw [hF]
 unfold pW at hF
 have hlc:=hR.1
 have hml:=(hR.2 [] (by simp)).1
 have hkl:=hkr.1
 have hkm:=(hkr.2 [] (by simp)).1
 have H:Hid (mM wB g (.slice nA l.length nc) s v w∧qI x∧cF wB∧aO (aN.int .i64) P' wB kA kc x.kids∧cR P' wB x.e eA ec∧aO yS P wB nA nc l):=hid ⟨h,hx,hT,hkr,her,hR⟩
 have HK:=hid hK
 have H2:Hid (0≤s.left∧s.left≤30∧pot s+8589934592≤1099511627776):=hid ⟨hlo,hhi,hp⟩
 obtain ⟨⟨p0,d0⟩,d2,d3,d4,f3,f4,hgl⟩:=h.cells
 have hT1:=h.left (s.left - 2)
 have hsz:(w.setCell ⟨g,3,none⟩ (.int .i64 (s.left - 2))).heap.size=w.heap.size:=by simp [World.setCell]
 obtain ⟨w1,hw1⟩:=nm_ (w.setCell ⟨g,3,none⟩ (.int .i64 (s.left - 2)))
 rw [hw1] at hT1 hsz
 obtain ⟨w2,hw2,hb2,_⟩:=alo_ w1 (.cells (lO x kA kc uA uc gA gc eA ec) 43)
 have hbx2:w2.heap[w.heap.size]? = some (.cells (lO x kA kc uA uc gA gc eA ec) 43 (0,0)):=by rw [←hsz,←hw2];exact I_ _ _
 have hgK:w.heap.size≠g:=fun e=>by have:=h.wr.lt;omega
 have hS1:=h.to hT1
 have HX:Hid (w2.heap[w.heap.size]? = some (.cells (lO x kA kc uA uc gA gc eA ec) 43 (0,0))∧mM wB g (.slice nA l.length nc) ⟨s.out,s.left - 2,s.bad⟩ v w2∧fM wB.heap.size g (.slice nA l.length nc) w ⟨s.out,s.left - 2,s.bad⟩ v w2):=hid ⟨hbx2,hS1.below hb2,hT1.trans (fM.below hS1.wr hb2)⟩
 have HN:=hid hN
 have HW1:=hk_ hw1 hw2 hgK
 obtain ⟨xd,xk,xu,xn,xa,xe⟩:=x
 clear h hx hkr her hR hK hT hN hp hb2 hbx2 hS1 hT1 hw1 hw2 hsz
 simp only [lO]
 go_enter func114,ntmps114
 go_upto_region 2 with fail
 have hw2:=HW1.out.2.1
 simp only [lO] at hw2
 rw [HW1.out.1,hw2]
 obtain ⟨K,hKK⟩:=nm_ w.heap.size
 have HX:=HX
 rw [hKK] at HX ⊢
 clear hw2 d0 d2 d3 d4 f3 f4 hgl
 have hkb:=aC HX.out.1
 obtain ⟨⟨p0,d0⟩,d2,d3,d4,f3,f4,hgl⟩:=HX.out.2.1.cells
 obtain ⟨b0,b1,b2,b3,b4,b5,b6,b7,b8⟩:=nV HX.out.1
 simp only at b0 b1 b2 b3 b4 b5 b6 b7 b8 d2 d3 d4
 clear d0 d4 f3 f4 b0 b2 b3 b4 b5 b6 b7 b8 p0
 obtain ⟨Dn,hDn⟩:∃Dn:World→Prop,∀W,Dn W↔(W.heap[K]? = some (.cells (lO ⟨xd,xk,xu,xn,xa,xe⟩ kA kc uA uc gA gc eA ec) 43 (0,0))∧mM wB g (.slice nA l.length nc) ⟨s.out,s.left - 2,s.bad⟩ v W∧fM wB.heap.size g (.slice nA l.length nc) w ⟨s.out,s.left - 2,s.bad⟩ v W):=⟨_,fun _=>Iff.rfl⟩
 have HDN:Hid (∀W,Dn W↔(W.heap[K]? = some (.cells (lO ⟨xd,xk,xu,xn,xa,xe⟩ kA kc uA uc gA gc eA ec) 43 (0,0))∧mM wB g (.slice nA l.length nc) ⟨s.out,s.left - 2,s.bad⟩ v W∧fM wB.heap.size g (.slice nA l.length nc) w ⟨s.out,s.left - 2,s.bad⟩ v W)):=hid hDn
 have hD0:Dn w2.drew:=(hDn _).2 ⟨HX.out.1,HX.out.2.1.below (J_ _ _).drew,HX.out.2.2.trans (fM.below HX.out.2.1.wr (J_ _ _).drew)⟩
 clear hDn
 go_cut [58] (fun s58 wx=>∃c:Bool,s58=.bool c∧(c=true↔fJ ⟨xd,xk,xu,xn,xa,xe⟩ k l.length s.left)∧Dn wx)
 case first=>
  by_cases h1:xk.length=2
  ·obtain ⟨a,b,rfl⟩:∃a b,xk=[a,b]:=by
    match xk,h1 with
    | [a,b],_=>exact ⟨a,b,rfl⟩
   obtain ⟨ka,rfl,c0,hkab⟩:=dT (H.out.2.2.2.1.below HX.out.2.1.low) 0 (by show 0<2;decide)
   obtain ⟨ka',e',c1,_⟩:=dT (H.out.2.2.2.1.below HX.out.2.1.low) 1 (by show 1<2;decide)
   injection e' with e'
   subst e'
   have c0:w2.cell? ka=some (.int .i64 a):=c0
   have c1:w2.cell? ⟨ka.block,ka.off+1,none⟩=some (.int .i64 b):=c1
   have b1:w2.cell? ⟨K,1,none⟩=some (.slice (some ka) 2 kc):=b1
   have hk2:(2:Int)≤kc:=by have:[a,b].length≤kc:=hkl;simp at this;omega
   have HCB:Hid (∀c:Bool,(c=true↔(a≤k∨b≤k∨(l.length:Int)≤max a b∨s.left - 2<0))→(c=true↔fJ ⟨xd,[a,b],xu,xn,xa,xe⟩ k l.length s.left)):=hid (fun c hc=>by
    rw [hc]
    unfold fJ k0 k1
    simp)
   have HD0:=hid hD0
   clear h1 hD0
   by_cases h2:a≤k
   ·go_region
    all_goals
     go_wp2_with fail
     go_meet
     exact ⟨_,rfl,HCB.out _ ⟨fun _=>.inl h2,fun _=>rfl⟩,by first | exact HD0.out | exact HD0.out⟩
   ·by_cases h3:b≤k
    ·go_region
     all_goals
      go_wp2_with fail
      go_meet
      exact ⟨_,rfl,HCB.out _ ⟨fun _=>.inr (.inl h3),fun _=>rfl⟩,by first | exact HD0.out | exact HD0.out⟩
    ·by_cases h4:(l.length:Int)≤max a b
     ·go_region
      all_goals
       go_wp2_with fail
       go_meet
       exact ⟨_,rfl,HCB.out _ ⟨fun _=>.inr (.inr (.inl h4)),fun _=>rfl⟩,by first | exact HD0.out | exact HD0.out⟩
     ·by_cases h5:s.left - 2<0
      ·go_region
       all_goals
        go_wp2_with fail
        go_meet
        exact ⟨_,rfl,HCB.out _ ⟨fun _=>.inr (.inr (.inr h5)),fun _=>rfl⟩,by first | exact HD0.out | exact HD0.out⟩
      ·go_region
       all_goals
        go_wp2_with fail
        go_meet
        exact ⟨_,rfl,HCB.out _ ⟨fun h=>(by simp at h),fun h=>h.elim (fun h=>absurd h (by omega)) (fun h=>h.elim (fun h=>absurd h (by omega)) (fun h=>h.elim (fun h=>absurd h (by omega)) (fun h=>absurd h (by omega))))⟩,by first | exact HD0.out | exact HD0.out⟩
  ·have t1:((xk.length:Int) == 2)=false:=aW (by omega)
   have t2:((xk.length:Int) != 2)=true:=by unfold bne;rw [t1];rfl
   have HD0:=hid hD0
   clear hD0
   go_region
   all_goals
    go_wp2_with fail
    go_meet
    exact ⟨_,rfl,⟨fun _=>.inl h1,fun _=>rfl⟩,by first | exact HD0.out | exact HD0.out⟩
 case rest=>
  obtain ⟨c,rfl,hcb,hdn⟩:=hcut
  obtain ⟨hbx,hS,hTo⟩:=(HDN.out _).1 hdn
  have hgK:=hKK▸HW1.out.2.2
  clear hdn HDN b1 d2 d3 hgl hkb HX hD0
  obtain ⟨⟨p0,d0⟩,d2,d3,d4,f3,f4,hgl⟩:=hS.cells
  cases c with
  | true=>
   rw [M_ (hcb.1 rfl)] at hF
   have HF:=hk_ hF hS.bad hTo
   clear hF hS hTo hcb hbx
   go_wp2_with fail
   go_end0
   exact ⟨rfl,v,by rw [←HF.out.1];exact HF.out.2.2.trans HF.out.2.1⟩
  | false=>
   have hnb:¬fJ ⟨xd,xk,xu,xn,xa,xe⟩ k l.length s.left:=fun h=>by have:=hcb.2 h;simp at this
   rw [K_ hnb] at hF
   unfold fJ at hnb
   rw [not_or,not_or,not_or,not_or] at hnb
   obtain ⟨q1,q2,q3,q4,q5⟩:=hnb
   obtain ⟨a,b,rfl⟩:∃a b,xk=[a,b]:=by
    match xk,(Decidable.not_not.1 q1:xk.length=2) with
    | [a,b],_=>exact ⟨a,b,rfl⟩
   have q2:¬a≤k:=q2
   have q3:¬b≤k:=q3
   have q4:¬(l.length:Int)≤max a b:=q4
   obtain ⟨bn,rfl⟩:∃bn:Nat,b=bn:=⟨b.toNat,by omega⟩
   have hbn:bn<l.length:=by omega
   have hF:dP (ind++[125,10]) (oJ l (eF l (bY l f)) ⟨xd,[a,(bn:Int)],xu,xn,xa,xe⟩ ind (eF l (bY l f) a (ind++[32,32]) (dP (Hj ⟨xd,[a,(bn:Int)],xu,xn,xa,xe⟩ ind) ⟨s.out,s.left - 2,s.bad⟩)))=F:=hF
   unfold oJ Hj at hF
   have hk1:k1 ⟨xd,[a,(bn:Int)],xu,xn,xa,xe⟩=bn:=rfl
   rw [hk1,mZ (by omega) (by omega)] at hF
   simp only [Int.toNat_natCast] at hF
   have hpl:=kX H.out.2.1.ex
   have HPR:=hid (fun W (hW:Below wB.heap.size wB W)=>zY xe eA ec W ((H.out.2.2.2.2.1.2 [] (by simp)).keep (Same.of_below hW)) H.out.2.2.2.2.1.1 H.out.2.1.ex (H.out.2.2.1.below hW))
   simp only at hpl
   obtain ⟨pe,hpe⟩:=nm_ (kD xe)
   rw [hpe] at hF hpl
   simp only [hpe] at HPR
   obtain ⟨a1,h1⟩:=nm_ (ind++[105,102,32])
   rw [h1] at hF
   obtain ⟨a2,h2⟩:=nm_ (a1++pe)
   rw [h2] at hF
   obtain ⟨a3,h3⟩:=nm_ (a2++[32,123,10])
   rw [h3] at hF
   obtain ⟨a4,h4⟩:=nm_ (ind++[32,32])
   rw [h4] at hF
   obtain ⟨a5,h5⟩:=nm_ (ind++[125,32,101,108,115,101,32,123,10])
   rw [h5] at hF
   obtain ⟨a6,h6⟩:=nm_ (ind++[125,10])
   rw [h6] at hF
   have l1:a1.length=ind.length+3:=by rw [←h1];simp
   have l2:a2.length=a1.length+pe.length:=by rw [←h2];simp
   have l3:a3.length=a2.length+3:=by rw [←h3];simp
   have l4:a4.length=ind.length+2:=by rw [←h4];simp
   have l5:a5.length=ind.length+9:=by rw [←h5];simp
   have l6:a6.length=ind.length+2:=by rw [←h6];simp
   have e1:∀W,(Op.stringOp .add (str ind) ⟨#[105,102,32]⟩).run prog W=.ok (.string (str a1)) W:=fun W=>by rw [←h1];exact aM ind [105,102,32] (by simp;omega) W
   have e2:∀W,(Op.stringOp .add (str a1) (str pe)).run prog W=.ok (.string (str a2)) W:=fun W=>by rw [←h2];exact aM a1 pe (by omega) W
   have e3:∀W,(Op.stringOp .add (str a2) ⟨#[32,123,10]⟩).run prog W=.ok (.string (str a3)) W:=fun W=>by rw [←h3];exact aM a2 [32,123,10] (by simp;omega) W
   have e4:∀W,(Op.stringOp .add (str ind) ⟨#[32,32]⟩).run prog W=.ok (.string (str a4)) W:=fun W=>by rw [←h4];exact aM ind [32,32] (by simp;omega) W
   have e5:∀W,(Op.stringOp .add (str ind) ⟨#[125,32,101,108,115,101,32,123,10]⟩).run prog W=.ok (.string (str a5)) W:=fun W=>by rw [←h5];exact aM ind [125,32,101,108,115,101,32,123,10] (by simp;omega) W
   have e6:∀W,(Op.stringOp .add (str ind) ⟨#[125,10]⟩).run prog W=.ok (.string (str a6)) W:=fun W=>by rw [←h6];exact aM ind [125,10] (by simp;omega) W
   have hps:pot ⟨s.out,s.left - 2,s.bad⟩+17179869184=pot s:=by
    unfold pot So
    simp only
    repeat' split
    all_goals omega
   have hpo:=H2.out.2.2
   have hl0:=H2.out.2.1
   obtain ⟨s0,hs0⟩:=nm_ (⟨s.out,s.left - 2,s.bad⟩:WS)
   have hsl:s0.left=s.left - 2:=by rw [←hs0]
   rw [hs0] at hS hTo hF hps
   have hp1:=kN a3 s0
   have hg0:=rH s0
   obtain ⟨s1,hs1⟩:=nm_ (dP a3 s0)
   have hsl1:s1.left=s0.left:=by rw [←hs1];rfl
   rw [hs1] at hF hp1
   have hk2:=sN HN.out f (-(5+2*f)) a a4 s1 (by omega) (m_ _) (by omega)
   obtain ⟨s2,hs2⟩:=nm_ (eF l (bY l f) a a4 s1)
   rw [hs2] at hF hk2
   have hp2:=rH s2
   have hp3:=hk2.pot
   have hlo2:=hk2.lo
   have hhi2:=hk2.hi
   have HV:=hid (⟨by omega,by omega,by omega,by omega,by omega,hs1,hs2⟩:(s0.out.length:Int)+a3.length≤140737488355328∧-100≤s1.left∧s1.left≤30∧pot s1≤1099511627776∧a4.length+2*f≤1000∧dP a3 s0=s1∧eF l (bY l f) a a4 s1=s2)
   have HV2:=hid (⟨by omega,by omega,by omega,by omega⟩:-100≤s2.left∧s2.left≤30∧pot s2+100000≤1099511627776∧(s2.out.length:Int)≤1099511627776)
   obtain ⟨b0,b1,b2,b3,b4,b5,b6,b7,b8⟩:=nV hbx
   simp only at b0 b1 b2 b3 b4 b5 b6 b7 b8
   have hkl':=aC hbx
   have HX3:=hk_ hbx hS hTo
   have HL6:Hid (a6.length≤2000∧a5.length≤2000):=hid ⟨by omega,by omega⟩
   have HF:=hid hF
   clear hF hbx hS hTo hcb h1 h2 h3 h4 h5 h6 l1 l2 l3 l4 hpl hpe hps hpo hl0 hs0 hsl hp1 hg0 hsl1 hk2 hs1 hs2 hp2 hp3 hlo2 hhi2 hk1
   go_wp2_with fail
   go_region_with (first
    | (go_at_call 125;refine (HPR.out _ ?_).mono ?_;(first | exact HX3.out.2.1.low | exact HX3.out.2.1.low.drew);rintro r w3 ⟨rfl,hb3⟩;have H3:Hid (w3.heap[K]? = some (.cells (lO ⟨xd,[a,(bn:Int)],xu,xn,xa,xe⟩ kA kc uA uc gA gc eA ec) 43 (0,0))∧mM wB g (.slice nA l.length nc) s0 v w3∧fM wB.heap.size g (.slice nA l.length nc) w s0 v w3):=hid (by first | exact ⟨(hb3.block K hkl').trans HX3.out.1,HX3.out.2.1.below hb3,HX3.out.2.2.trans (fM.below HX3.out.2.1.wr hb3)⟩ | exact ⟨(hb3.block K hkl').trans HX3.out.1,HX3.out.2.1.below ((J_ _ _).drew.trans hb3),HX3.out.2.2.trans (fM.below HX3.out.2.1.wr ((J_ _ _).drew.trans hb3))⟩);clear hb3;(try go_wp2_with fail))
    | (go_at_call 65;refine (dG a3 H3.out.2.1 HV.out.1).mono ?_;rintro r w4 ⟨rfl,v4,h4⟩;have H4:=hid h4;clear h4;(try go_wp2_with fail)))
   all_goals
    have h4:=H4.out
    rw [HV.out.2.2.2.2.2.1] at h4
    have H44:Hid (w4.heap[K]? = some (.cells (lO ⟨xd,[a,(bn:Int)],xu,xn,xa,xe⟩ kA kc uA uc gA gc eA ec) 43 (0,0))∧mM wB g (.slice nA l.length nc) s1 v4 w4∧fM wB.heap.size g (.slice nA l.length nc) w s1 v4 w4):=hid ⟨h4.box H3.out.1 hgK (by decide),H3.out.2.1.to h4,H3.out.2.2.trans h4⟩
    clear h4 H4
    obtain ⟨ka,rfl,c0,hkab⟩:=dT (H.out.2.2.2.1.below H44.out.2.1.low) 0 (by show 0<2;decide)
    have c0:w4.cell? ka=some (.int .i64 a):=c0
    have hk2:(2:Int)≤kc:=by have:[a,(bn:Int)].length≤kc:=hkl;simp at this;omega
    obtain ⟨r0,r1,r2,r3,r4,r5,r6,r7,r8⟩:=nV H44.out.1
    have r1:w4.cell? ⟨K,1,none⟩=some (.slice (some ka) 2 kc):=r1
    have hkl4:=aC H44.out.1
    clear r0 r2 r3 r4 r5 r6 r7 r8
    go_wp2_with fail
    refine (HK.out a a4 s1 v4 _ (by omega) (by omega) (by omega) HV.out.2.2.2.2.1 HV.out.2.1 HV.out.2.2.1 HV.out.2.2.2.1 H44.out.2.1).mono ?_
    rw [HV.out.2.2.2.2.2.2]
    rintro r w5 ⟨rfl,v5,h5⟩
    have H5:Hid (w5.heap[K]? = some (.cells (lO ⟨xd,[a,(bn:Int)],xu,xn,xa,xe⟩ (some ka) kc uA uc gA gc eA ec) 43 (0,0))∧mM wB g (.slice nA l.length nc) s2 v5 w5∧fM wB.heap.size g (.slice nA l.length nc) w s2 v5 w5):=hid ⟨h5.box H44.out.1 hgK (by decide),H44.out.2.1.to h5,H44.out.2.2.trans h5⟩
    clear h5 c0 r1 hkab
    obtain ⟨ka',e',c1,hkab⟩:=dT (H.out.2.2.2.1.below H5.out.2.1.low) 1 (by show 1<2;decide)
    injection e' with e'
    subst e'
    have c1:w5.cell? ⟨ka.block,ka.off+1,none⟩=some (.int .i64 bn):=c1
    obtain ⟨nad,_,rfl,_,_⟩:=H.out.2.2.2.2.2.at_ bn hbn
    obtain ⟨yA,yc,_,_,_,_,_,_,⟨_,n1,_⟩,_,_,_,_,hyl⟩:=eG (H.out.2.2.2.2.2.below H5.out.2.1.low) bn hbn
    obtain ⟨yn,hyn⟩:=nm_ ((l[bn]).kids.length)
    rw [hyn] at n1
    obtain ⟨⟨p5,d5⟩,d52,_,_,_,_,hgl5⟩:=H5.out.2.1.cells
    obtain ⟨r0,r1,r2,r3,r4,r5,r6,r7,r8⟩:=nV H5.out.1
    have r1:w5.cell? ⟨K,1,none⟩=some (.slice (some ka) 2 kc):=r1
    have hkl5:=aC H5.out.1
    have hbnn:(bn:Int)<l.length:=by omega
    have hbn0:(0:Int)≤bn:=by omega
    clear r0 r2 r3 r4 r5 r6 r7 r8 d5
    by_cases hz:yn=0
    ·have hF:=HF.out
     rw [M_ (X_ (hyn.trans hz))] at hF
     have HFF:=hid hF
     have l6:a6.length≤2000:=HL6.out.1
     have hw6:(s2.out.length:Int)+a6.length≤140737488355328:=by have:=HV2.out.2.2.2;omega
     have HW6:=hid hw6
     clear hF hyn hw6 l6
     subst hz
     go_wp2_with fail
     go_region
     all_goals
      go_wp2_with fail
      refine (dG a6 (by first | exact H5.out.2.1 | exact H5.out.2.1.below (J_ _ _).drew) HW6.out).mono ?_
      rintro r w6 ⟨rfl,v6,h6⟩
      have H6:=hid h6
      clear h6
      go_wp2_with fail
      go_end0
      exact ⟨rfl,v6,by rw [←HFF.out];first | exact H5.out.2.2.trans H6.out | exact (H5.out.2.2.trans (fM.below H5.out.2.1.wr (J_ _ _).drew)).trans H6.out⟩
    ·have hF:=HF.out
     rw [K_ (fun h=>hz (by rw [←hyn,h];rfl))] at hF
     have l5:a5.length≤2000:=HL6.out.2
     have hp5:=kN a5 s2
     have hv2:=HV2.out
     obtain ⟨s3,hs3⟩:=nm_ (dP a5 s2)
     have hsl3:s3.left=s2.left:=by rw [←hs3];rfl
     rw [hs3] at hF hp5
     have hk4:=sN HN.out f (-101) bn a4 s3 HV.out.2.2.2.2.1 (by omega) (by omega)
     obtain ⟨s4,hs4⟩:=nm_ (eF l (bY l f) bn a4 s3)
     rw [hs4] at hF hk4
     have hp4:=rH s4
     have hp6:=hk4.pot
     have l6:a6.length≤2000:=HL6.out.1
     have HFF:=hid (⟨hF,hs3,hs4,by omega,by omega,by omega,by omega,by omega⟩:dP a6 s4=F∧dP a5 s2=s3∧eF l (bY l f) bn a4 s3=s4∧(s2.out.length:Int)+a5.length≤140737488355328∧-100≤s3.left∧s3.left≤30∧pot s3≤1099511627776∧(s4.out.length:Int)+a6.length≤140737488355328)
     clear hF hp5 hv2 hs3 hsl3 hk4 hs4 hp4 hp6 l6 l5 hyn
     go_wp2_with fail
     go_region
     all_goals
      go_wp2_with fail
      refine (dG a5 (by first | exact H5.out.2.1 | exact H5.out.2.1.below (J_ _ _).drew) HFF.out.2.2.2.1).mono ?_
      rintro r w6 ⟨rfl,v6,h6⟩
      rw [HFF.out.2.1] at h6
      have H6:Hid (w6.heap[K]? = some (.cells (lO ⟨xd,[a,(bn:Int)],xu,xn,xa,xe⟩ (some ka) kc uA uc gA gc eA ec) 43 (0,0))∧mM wB g (.slice (some nad) l.length nc) s3 v6 w6∧fM wB.heap.size g (.slice (some nad) l.length nc) w s3 v6 w6):=hid (by first | exact ⟨h6.box H5.out.1 hgK (by decide),H5.out.2.1.to h6,H5.out.2.2.trans h6⟩ | exact ⟨h6.box (w:=w5.drew) H5.out.1 hgK (by decide),(H5.out.2.1.below (J_ _ _).drew).to h6,(H5.out.2.2.trans (fM.below H5.out.2.1.wr (J_ _ _).drew)).trans h6⟩)
      clear h6 c1 r1 n1 d52 hkab hyl hkl5 p5 hgl5
      obtain ⟨ka',e',c1,hkab⟩:=dT (H.out.2.2.2.1.below H6.out.2.1.low) 1 (by show 1<2;decide)
      injection e' with e'
      subst e'
      have c1:w6.cell? ⟨ka.block,ka.off+1,none⟩=some (.int .i64 bn):=c1
      obtain ⟨r0,r1,r2,r3,r4,r5,r6,r7,r8⟩:=nV H6.out.1
      have r1:w6.cell? ⟨K,1,none⟩=some (.slice (some ka) 2 kc):=r1
      have hkl6:=aC H6.out.1
      clear r0 r2 r3 r4 r5 r6 r7 r8
      go_wp2_with fail
      refine (HK.out bn a4 s3 v6 _ hbn0 hbnn (by omega) HV.out.2.2.2.2.1 HFF.out.2.2.2.2.1 HFF.out.2.2.2.2.2.1 HFF.out.2.2.2.2.2.2.1 H6.out.2.1).mono ?_
      rw [HFF.out.2.2.1]
      rintro r w7 ⟨rfl,v7,h7⟩
      have H7:Hid (mM wB g (.slice (some nad) l.length nc) s4 v7 w7∧fM wB.heap.size g (.slice (some nad) l.length nc) w s4 v7 w7):=hid ⟨H6.out.2.1.to h7,H6.out.2.2.trans h7⟩
      clear h7 c1 r1
      go_wp2_with fail
      refine (dG a6 H7.out.1 HFF.out.2.2.2.2.2.2.2).mono ?_
      rintro r w8 ⟨rfl,v8,h8⟩
      have H8:=hid h8
      clear h8
      go_wp2_with fail
      go_end0
      exact ⟨rfl,v8,by rw [←HFF.out.1];exact H7.out.2.trans H8.out⟩
theorem wX {P l nA nc wB g} (hN:∀x,x∈l→qI x) (hR:aO yS P wB nA nc l) (hT:cF wB):∀f:Nat,f≤40→Cm l nA nc wB g f
 | 0,_=>fun k ind s v w h0 hk hd=>by omega
 | f+1,hf=>by
  have h1:wW l nA nc wB g f:=Ev (by omega) hN hR (wX hN hR hT f (by omega))
  exact Oc (by omega) hN hR hT h1 (Wo (by omega) hN hR hT h1)
end Go.Proofs.YtgcfjkfipkfijaaGreatDoor
namespace Go.Proofs.YtgcfjkfipkfijaaGreatDoor
open Go Go.RowKit Go.Lib _root_.Go.Proofs.Tryz
structure rI (r:tL):Prop where
 name:r.name.size≤65536
 prm:∀p,p∈r.params→p.name.size≤65536∧oT p.n
 nd:∀x,x∈r.nodes→qI x
theorem jR {P w A c l} (h:aO kE P w A c l) (i) (hi:i<l.length):∃ad,A=some ad∧w.cell? (ad.add (i*3))=some (.string l[i].name)∧w.cell? ⟨(ad.add (i*3)).block,(ad.add (i*3)).off+1,none⟩=some (.int .i64 l[i].n) ∧
  w.cell? ⟨(ad.add (i*3)).block,(ad.add (i*3)).off+2,none⟩=some (.bool l[i].scaled)∧(ad.add (i*3)).block<w.heap.size:=by
 obtain ⟨ad,cs,e,hav,hcell⟩:=h.at_ i hi
 obtain ⟨x,hx⟩:=nm_ (l[i])
 rw [hx] at hav ⊢
 obtain ⟨a1,a2,rfl,ha1,b1,b2,rfl,hb1,hb2⟩:=hav [] (by simp)
 have e1:a1=[.string x.name]:=ha1
 have e2:b1=[.int .i64 x.n]:=hb1
 have e3:b2=[.bool x.scaled]:=hb2
 subst e1 e2 e3
 refine ⟨ad,e,hcell 0 _ rfl,?_,?_,by rw [pX];exact rG h i hi e⟩
 ·rw [←jL _ _ 1 (by decide)];exact hcell 1 _ rfl
 ·rw [←jL _ _ 2 (by decide)];exact hcell 2 _ rfl
theorem Ss (w g lv n) (hg:w.heap.size≤g) (w2) (h:w2.heap[g]? = some (.cells #[.pointer none,.slice none 0 0,lv,.int .i64 n,.bool false] 112 (0,0))) (hb:Below w.heap.size w w2):mM w g lv ⟨[],n,false⟩ (.slice none 0 0) w2:=
 ⟨⟨⟨_,.inl rfl,h⟩,World.ownsRow_nil _ _ _ _,hg⟩,hb⟩
theorem Ew {p} (h:p.name.size≤65536∧oT p.n):(Es p).length≤66000:=by
 have h1:=Lib.itoa_length_le p.n h.2.1 h.2.2
 have h2:=h.1
 unfold Es
 simp only [O_,cA,P_,b_]
 split
 ·simp only [P_,b_];omega
 ·simp only [b_];omega
theorem pY:∀l:List oF,(∀p,p∈l→p.name.size≤65536∧oT p.n)→(dA l).length≤l.length*66000
 | [],_=>by simp [dA]
 | p::l,h=>by
  have h1:=pY l (fun q hq=>h q (by simp [hq]))
  have h2:=Ew (h p (by simp))
  unfold dA at h1 ⊢
  rw [List.map_cons,List.flatten_cons,O_,P_,Nat.succ_mul]
  omega
theorem Ir (l p):dA (l++[p])=dA l++Es p:=by unfold dA;simp
theorem Ab {P} (r pA pc nA nc w) (hp:aO kE P w pA pc r.params) (hn:aO yS P w nA nc r.nodes) (hr:rI r) (hT:cF w) :
  Calls prog 41 #[.agg #[.string r.name,.slice pA r.params.length pc,.slice nA r.nodes.length nc]] w fun e w'=>e=.returned (.tuple #[.string (str (fF r).1),.bool (fF r).2])∧Below w.heap.size w w':=by
 obtain ⟨pn,hpn⟩:=nm_ r.params.length
 obtain ⟨nn,hnn⟩:=nm_ r.nodes.length
 have hpm:=(hp.2 [] (by simp)).1
 have hnm:=(hn.2 [] (by simp)).1
 have hpc:=hp.1
 have hnc:=hn.1
 obtain ⟨F,hF⟩:=nm_ (fF r)
 rw [hF]
 unfold fF at hF
 rw [hpn] at hpm hpc hF ⊢
 rw [hnn] at hnm hnc hF ⊢
 have H:=hid (⟨hp,hn,hr,hT,hpn,hnn⟩:_∧_∧_∧_∧_∧_)
 have HB:=hid ((J_ w.heap.size w).alloc le_ (.cells #[.string r.name,.slice pA pn pc,.slice nA nn nc] 26))
 clear hp hn hr hT hpn hnn
 by_cases hc:4<pn∨nn<1∨24<nn
 ·rw [M_ hc] at hF
  have HF:=hid hF
  clear hF
  by_cases h1:4<pn
  ·have h1':(4:Int)<pn:=by omega
   clear hc
   go_enter func41,ntmps41
   go_wp2_with fail
   go_ret2
   exact ⟨by rw [←HF.out];rfl,HB.out⟩
  ·have h1':¬(4:Int)<pn:=by omega
   by_cases h2:nn<1
   ·have h2':(nn:Int)<1:=by omega
    clear hc
    go_enter func41,ntmps41
    go_wp2_with fail
    go_ret2
    exact ⟨by rw [←HF.out];rfl,HB.out⟩
   ·have h2':¬(nn:Int)<1:=by omega
    have h3:(24:Int)<nn:=by omega
    clear hc
    go_enter func41,ntmps41
    go_wp2_with fail
    go_ret2
    exact ⟨by rw [←HF.out];rfl,HB.out⟩
 ·rw [K_ hc] at hF
  rw [not_or,not_or] at hc
  obtain ⟨h1,h2,h3⟩:=hc
  have h1':¬(4:Int)<pn:=by omega
  have h2':¬(nn:Int)<1:=by omega
  have h3':¬(24:Int)<nn:=by omega
  have HF:=hid hF
  clear hF h1 h2 h3
  go_enter func41,ntmps41
  go_wp2_with fail
  obtain ⟨w2,hw2⟩:=nm_ ((w.alloc (.cells #[.string r.name,.slice pA pn pc,.slice nA nn nc] 26)).alloc (.cells #[.pointer none,.slice none 0 0,.slice nA nn nc,.int .i64 nn,.bool false] 112))
  obtain ⟨K,hK⟩:=nm_ w.heap.size
  have hbl:Below w.heap.size w w2:=hw2▸((J_ _ _).alloc le_ _).alloc (by simp) _
  have hk1:w2.heap[K]? = some (.cells #[.string r.name,.slice pA pn pc,.slice nA nn nc] 26 (0,0)):=by
   rw [←hw2,←hK]
   exact (((J_ _ _).alloc le_ _).block w.heap.size (by simp)).trans (I_ _ _)
  have hk2:w2.heap[K+1]? = some (.cells #[.pointer none,.slice none 0 0,.slice nA nn nc,.int .i64 nn,.bool false] 112 (0,0)):=by
   rw [←hw2,←hK]
   have:=I_ (w.alloc (.cells #[.string r.name,.slice pA pn pc,.slice nA nn nc] 26)) (.cells #[.pointer none,.slice none 0 0,.slice nA nn nc,.int .i64 nn,.bool false] 112)
   simpa using this
  rw [hw2,hK]
  have hS2:=Ss w (K+1) (.slice nA nn nc) nn (by omega) w2 hk2 hbl
  obtain ⟨c0,c1,c2⟩:w2.cell? ⟨K,0,none⟩=some (.string r.name)∧w2.cell? ⟨K,1,none⟩=some (.slice pA pn pc)∧w2.cell? ⟨K,2,none⟩=some (.slice nA nn nc):=⟨aB hk1 0,aB hk1 1,aB hk1 2⟩
  have hkl:=aC hk1
  obtain ⟨g,hg⟩:=nm_ (K+1)
  rw [hg] at hS2 ⊢
  have HX:=hk_ hk1 hS2 hg
  have hnl:=H.out.2.2.1.name
  obtain ⟨t1,h1⟩:=nm_ ([114,101,99,105,112,101,32]++jZ r.name)
  obtain ⟨t2,h2⟩:=nm_ (t1++[10])
  have l1:t1.length=7+r.name.size:=by rw [←h1,O_,cA];rfl
  have l2:t2.length=t1.length+1:=by rw [←h2];simp
  have e1:∀W,(Op.stringOp .add ⟨#[114,101,99,105,112,101,32]⟩ r.name).run prog W=.ok (.string (str t1)) W:=fun W=>by
   have:=aM [114,101,99,105,112,101,32] (jZ r.name) (by rw [cA];simp;omega) W
   rw [h1] at this
   rwa [show str (jZ r.name)=r.name from dO _] at this
  have e2:∀W,(Op.stringOp .add (str t1) ⟨#[10]⟩).run prog W=.ok (.string (str t2)) W:=fun W=>by rw [←h2];exact aM t1 [10] (by simp;omega) W
  have HT:Hid (t2=gN r∧((([]:List UInt8).length:Int)+t2.length≤140737488355328)∧t2.length≤66000):=hid ⟨by rw [←h2,←h1];rfl,by simp;omega,by omega⟩
  clear hw2 hK hbl hk1 hk2 hS2 HB h1 h2 l1 l2 hnl hg
  go_region_with (go_at_call 65;refine (dG t2 (by first | exact HX.out.2.1 | exact HX.out.2.1.below (J_ _ _).drew) HT.out.2.1).mono ?_;rintro e w3 ⟨rfl,v3,h3⟩;have H3:Hid (mM w g (.slice nA nn nc) ⟨t2,nn,false⟩ v3 w3∧w3.heap[K]? = some (.cells #[.string r.name,.slice pA pn pc,.slice nA nn nc] 26 (0,0))):=hid (by first | exact ⟨HX.out.2.1.to h3,h3.box HX.out.1 (by have:=HX.out.2.2;omega) (by decide)⟩ | exact ⟨(HX.out.2.1.below (J_ _ _).drew).to h3,h3.box (w:=w2.drew) HX.out.1 (by have:=HX.out.2.2;omega) (by decide)⟩);have hk3:=aC H3.out.2;have y1:w3.cell? ⟨K,1,none⟩=some (.slice pA pn pc):=aB H3.out.2 1;clear h3;(try go_wp2_with fail))
  all_goals
   go_wp2_with fail
   clear y1 hk3 hkl
   go_loopg [41] (pn+1) (fun q s41 wr=>∃(i:Nat) (v':Value),s41=.int .i64 (i:Nat)∧i≤pn∧pn - i<q∧mM w g (.slice nA nn nc) ⟨gN r++dA (r.params.take i),nn,false⟩ v' wr)
   case atStart=>exact ⟨0,v3,rfl,h_ _,by omega,by rw [←HT.out.1];simpa [dA] using H3.out.1⟩
   case round=>
    obtain ⟨i,v',rfl,hip,hiq,hW⟩:=hrel
    obtain ⟨gk,rfl⟩:=pk_ gk 1 (by omega)
    by_cases hlt:i<pn
    ·have hrow:=H.out.1.below hW.low
     have hip':i<r.params.length:=by rw [H.out.2.2.2.2.1];exact hlt
     obtain ⟨ad,rfl,c0,c1,c2,hbl⟩:=jR hrow i hip'
     obtain ⟨p,hpp⟩:=nm_ (r.params[i])
     have hpN:=H.out.2.2.1.prm p (hpp▸g_ hip')
     have htk:r.params.take (i+1)=r.params.take i++[p]:=by rw [Z_ hip',hpp]
     rw [hpp] at c0 c1 c2
     obtain ⟨nm,n,sc⟩:=p
     simp only at c0 c1 c2 hpN
     have hpl:=pY (r.params.take i) (fun q hq=>H.out.2.2.1.prm q (List.mem_of_mem_take hq))
     have htl:(r.params.take i).length≤4:=by rw [l_];omega
     have hpl2:=Nat.mul_le_mul_right 66000 htl
     have ht2:=HT.out.2.2
     rw [HT.out.1] at ht2
     have hil:=Lib.itoa_length_le n hpN.2.1 hpN.2.2
     have hnz:=hpN.1
     obtain ⟨sh,hsh⟩:=nm_ (⟨(Lib.itoa n).toArray⟩:ByteArray)
     have HSH:=hid (fun W (hW:Below w.heap.size w W)=>Dh n W hpN.2.1 hpN.2.2 (H.out.2.2.2.1.below hW))
     rw [hsh] at HSH
     obtain ⟨b1,q1⟩:=nm_ ([112,97,114,97,109,32]++jZ nm)
     obtain ⟨b2,q2⟩:=nm_ (b1++[32,58,61,32])
     obtain ⟨b3,q3⟩:=nm_ (b2++Lib.itoa n)
     have l1:b1.length=6+nm.size:=by rw [←q1,O_,cA];rfl
     have l2:b2.length=b1.length+4:=by rw [←q2];simp
     have l3:b3.length=b2.length+(Lib.itoa n).length:=by rw [←q3];simp
     have f1:∀W,(Op.stringOp .add ⟨#[112,97,114,97,109,32]⟩ nm).run prog W=.ok (.string (str b1)) W:=fun W=>by
      have:=aM [112,97,114,97,109,32] (jZ nm) (by rw [cA];simp;omega) W
      rw [q1] at this
      rwa [show str (jZ nm)=nm from dO _] at this
     have f2:∀W,(Op.stringOp .add (str b1) ⟨#[32,58,61,32]⟩).run prog W=.ok (.string (str b2)) W:=fun W=>by rw [←q2];exact aM b1 [32,58,61,32] (by simp;omega) W
     have f3:∀W,(Op.stringOp .add (str b2) sh).run prog W=.ok (.string (str b3)) W:=fun W=>by rw [←q3,←hsh];exact aM b2 (Lib.itoa n) (by omega) W
     have HV:Hid ((((gN r++dA (r.params.take i)).length:Int)+b3.length≤140737488355328)∧((((gN r++dA (r.params.take i))++b3).length:Int)+7≤140737488355328)∧((((gN r++dA (r.params.take i))++b3++[32,115,99,97,108,101,100]).length:Int)+2≤140737488355328)∧((((gN r++dA (r.params.take i))++b3).length:Int)+2≤140737488355328) ∧
      gN r++dA (r.params.take (i+1))=(gN r++dA (r.params.take i))++b3++(if sc then [32,115,99,97,108,101,100] else [])++[59,10]):=hid ⟨by simp only [O_];omega,by simp only [O_];omega,by simp only [O_,P_,b_];omega,by simp only [O_];omega,by
       rw [htk,Ir,←q3,←q2,←q1]
       unfold Es
       simp only [p_]⟩
     have HW:=hid hW
     have hwz:=hW.wr.lt
     clear hW hrow hip' hpp hpN htk hpl htl hpl2 ht2 hil hnz hsh q1 q2 q3 l1 l2 l3
     cases sc with
     | true=>
      go_wp2_with fail
      obtain ⟨wp,hwp⟩:=nm_ (wr.alloc (.cells #[.string nm,.int .i64 n,.bool true] 71))
      obtain ⟨Kp,hKp⟩:=nm_ wr.heap.size
      have hbp:wp.heap[Kp]? = some (.cells #[.string nm,.int .i64 n,.bool true] 71 (0,0)):=by rw [←hwp,←hKp];exact I_ _ _
      have hbb:Below wr.heap.size wr wp:=hwp▸(J_ _ _).alloc le_ _
      rw [hwp,hKp]
      have HP:Hid (wp.heap[Kp]? = some (.cells #[.string nm,.int .i64 n,.bool true] 71 (0,0))∧mM w g (.slice nA nn nc) ⟨gN r++dA (r.params.take i),nn,false⟩ v' wp∧Kp≠g):=hid ⟨hbp,HW.out.below hbb,by omega⟩
      obtain ⟨m0,m1,m2⟩:wp.cell? ⟨Kp,0,none⟩=some (.string nm)∧wp.cell? ⟨Kp,1,none⟩=some (.int .i64 n)∧wp.cell? ⟨Kp,2,none⟩=some (.bool true):=⟨aB hbp 0,aB hbp 1,aB hbp 2⟩
      have hkp:=aC hbp
      clear hwp hKp hbp hbb c0 c1 c2 hbl hwz
      go_region_with (first
       | (go_at_call 66;refine (HSH.out _ ?_).mono ?_;(first | exact HP.out.2.1.low | exact HP.out.2.1.low.drew);rintro e w4 ⟨rfl,hb4⟩;have H4:Hid (w4.heap[Kp]? = some (.cells #[.string nm,.int .i64 n,.bool true] 71 (0,0))∧mM w g (.slice nA nn nc) ⟨gN r++dA (r.params.take i),nn,false⟩ v' w4):=hid (by first | exact ⟨(hb4.block Kp hkp).trans HP.out.1,HP.out.2.1.below hb4⟩ | exact ⟨(hb4.block Kp hkp).trans HP.out.1,HP.out.2.1.below ((J_ _ _).drew.trans hb4)⟩);have hk4:=aC H4.out.1;have x0:w4.cell? ⟨Kp,0,none⟩=some (.string nm):=aB H4.out.1 0;clear hb4;(try go_wp2_with fail))
       | (go_at_call 65;refine (dG b3 H4.out.2 HV.out.1).mono ?_;rintro e w5 ⟨rfl,v5,h5⟩;have H5:=hid h5;clear h5;(try go_wp2_with fail)))
      all_goals
       have H6:Hid (w5.heap[Kp]? = some (.cells #[.string nm,.int .i64 n,.bool true] 71 (0,0))∧mM w g (.slice nA nn nc) ⟨gN r++dA (r.params.take i)++b3,nn,false⟩ v5 w5):=hid ⟨H5.out.box H4.out.1 HP.out.2.2 (by decide),H4.out.2.to H5.out⟩
       have n2:w5.cell? ⟨Kp,2,none⟩=some (.bool true):=aB H6.out.1 2
       have hk5:=aC H6.out.1
       clear x0 hk4
       go_wp2_with fail
       refine (dG [32,115,99,97,108,101,100] H6.out.2 (by have:=HV.out.2.1;simpa using this)).mono ?_
       rintro e w6 ⟨rfl,v6,h6⟩
       have H7:=hid (H6.out.2.to h6)
       clear h6 n2 hk5
       go_wp2_with fail
       refine (dG [59,10] H7.out (by have:=HV.out.2.2.1;simpa [dP] using this)).mono ?_
       rintro e w7 ⟨rfl,v7,h7⟩
       have H8:=hid (H7.out.to h7)
       clear h7
       go_wp2_with fail
       go_roundg gk
       case measure=>omega
       case rel=>exact ⟨i+1,v7,by go_num,by omega,by omega,by rw [HV.out.2.2.2.2];exact H8.out⟩
     | false=>
      go_wp2_with fail
      obtain ⟨wp,hwp⟩:=nm_ (wr.alloc (.cells #[.string nm,.int .i64 n,.bool false] 71))
      obtain ⟨Kp,hKp⟩:=nm_ wr.heap.size
      have hbp:wp.heap[Kp]? = some (.cells #[.string nm,.int .i64 n,.bool false] 71 (0,0)):=by rw [←hwp,←hKp];exact I_ _ _
      have hbb:Below wr.heap.size wr wp:=hwp▸(J_ _ _).alloc le_ _
      rw [hwp,hKp]
      have HP:Hid (wp.heap[Kp]? = some (.cells #[.string nm,.int .i64 n,.bool false] 71 (0,0))∧mM w g (.slice nA nn nc) ⟨gN r++dA (r.params.take i),nn,false⟩ v' wp∧Kp≠g):=hid ⟨hbp,HW.out.below hbb,by omega⟩
      obtain ⟨m0,m1,m2⟩:wp.cell? ⟨Kp,0,none⟩=some (.string nm)∧wp.cell? ⟨Kp,1,none⟩=some (.int .i64 n)∧wp.cell? ⟨Kp,2,none⟩=some (.bool false):=⟨aB hbp 0,aB hbp 1,aB hbp 2⟩
      have hkp:=aC hbp
      clear hwp hKp hbp hbb c0 c1 c2 hbl hwz
      go_region_with (first
       | (go_at_call 66;refine (HSH.out _ ?_).mono ?_;(first | exact HP.out.2.1.low | exact HP.out.2.1.low.drew);rintro e w4 ⟨rfl,hb4⟩;have H4:Hid (w4.heap[Kp]? = some (.cells #[.string nm,.int .i64 n,.bool false] 71 (0,0))∧mM w g (.slice nA nn nc) ⟨gN r++dA (r.params.take i),nn,false⟩ v' w4):=hid (by first | exact ⟨(hb4.block Kp hkp).trans HP.out.1,HP.out.2.1.below hb4⟩ | exact ⟨(hb4.block Kp hkp).trans HP.out.1,HP.out.2.1.below ((J_ _ _).drew.trans hb4)⟩);have hk4:=aC H4.out.1;have x0:w4.cell? ⟨Kp,0,none⟩=some (.string nm):=aB H4.out.1 0;clear hb4;(try go_wp2_with fail))
       | (go_at_call 65;refine (dG b3 H4.out.2 HV.out.1).mono ?_;rintro e w5 ⟨rfl,v5,h5⟩;have H5:=hid h5;clear h5;(try go_wp2_with fail)))
      all_goals
       have H6:Hid (w5.heap[Kp]? = some (.cells #[.string nm,.int .i64 n,.bool false] 71 (0,0))∧mM w g (.slice nA nn nc) ⟨gN r++dA (r.params.take i)++b3,nn,false⟩ v5 w5):=hid ⟨H5.out.box H4.out.1 HP.out.2.2 (by decide),H4.out.2.to H5.out⟩
       have n2:w5.cell? ⟨Kp,2,none⟩=some (.bool false):=aB H6.out.1 2
       have hk5:=aC H6.out.1
       clear x0 hk4
       go_wp2_with fail
       refine (dG [59,10] H6.out.2 (by have:=HV.out.2.2.2.1;simpa using this)).mono ?_
       rintro e w7 ⟨rfl,v7,h7⟩
       have H8:=hid (H6.out.2.to h7)
       clear h7 n2 hk5
       go_wp2_with fail
       go_roundg gk
       case measure=>omega
       case rel=>exact ⟨i+1,v7,by go_num,by omega,by omega,by rw [HV.out.2.2.2.2];simpa [dP] using H8.out⟩
    ·obtain rfl:i=pn:=by omega
     have htk:r.params.take i=r.params:=by rw [←H.out.2.2.2.2.1];exact List.take_length
     rw [htk] at hW
     have hpl:=pY r.params H.out.2.2.1.prm
     rw [H.out.2.2.2.2.1] at hpl
     have ht2:=HT.out.2.2
     rw [HT.out.1] at ht2
     obtain ⟨sB,hsB⟩:=nm_ (dP [123,10] ⟨gN r++dA r.params,nn,false⟩)
     have hBl:sB.left=nn:=by rw [←hsB];rfl
     have hBo:sB.out.length≤400000:=by
      rw [←hsB]
      show ((gN r++dA r.params)++[123,10]).length≤_
      simp only [O_,P_,b_]
      omega
     have hBp:pot sB≤1099511627776:=by
      unfold pot So
      rw [hBl]
      split <;> omega
     have HKI:wW r.nodes nA nc w g 24:=Ev (by decide) H.out.2.2.1.nd H.out.2.1 (wX H.out.2.2.1.nd H.out.2.1 H.out.2.2.2.1 24 (by decide))
     have hkn:=sN H.out.2.2.1.nd 24 (-101) 0 [32,32] sB (by decide) (by decide) (by omega)
     obtain ⟨sC,hsC⟩:=nm_ (eF r.nodes (bY r.nodes 24) 0 [32,32] sB)
     rw [hsC] at hkn
     have hCp:=rH sC
     have hCq:=hkn.pot
     obtain ⟨sD,hsD⟩:=nm_ (dP [125,10] sC)
     have hDF:(sD.out,!sD.bad)=F:=by
      rw [←HF.out,←hsD,←hsC,←hsB,←H.out.2.2.2.2.2]
      rfl
     have hD0:sD.out≠[]:=by rw [←hsD];unfold dP;simp
     have HV:=hid (⟨hsB,hsC,hsD,hDF,hD0,by omega,by simp;omega,by simp;omega,hBp,by omega,by omega⟩:dP [123,10] ⟨gN r++dA r.params,nn,false⟩=sB∧eF r.nodes (bY r.nodes 24) 0 [32,32] sB=sC∧dP [125,10] sC=sD∧(sD.out,!sD.bad)=F∧sD.out≠[] ∧
      (sC.out.length:Int)≤1099511627776∧(((gN r++dA r.params).length:Int)+([123,10]:List UInt8).length≤140737488355328)∧((sC.out.length:Int)+([125,10]:List UInt8).length≤140737488355328)∧pot sB≤1099511627776∧-100≤sB.left∧sB.left≤30)
     have HKK:=hid HKI
     have HW:=hid hW
     clear hW htk hpl ht2 hsB hBl hBo hBp HKI hkn hsC hCp hCq hsD hDF hD0
     go_wp2_with fail
     refine (dG [123,10] HW.out HV.out.2.2.2.2.2.2.1).mono ?_
     rw [HV.out.1]
     rintro e w4 ⟨rfl,v4,h4⟩
     have H4:=hid (HW.out.to h4)
     clear h4
     go_wp2_with fail
     have hrn:=H.out.2.2.2.2.2
     have hKI:=HKK.out 0 [32,32] sB v4 w4 (m_ _) (by omega) (by omega) (by decide) HV.out.2.2.2.2.2.2.2.2.2.1 HV.out.2.2.2.2.2.2.2.2.2.2 HV.out.2.2.2.2.2.2.2.2.1 (by rw [hrn];exact H4.out)
     rw [hrn,HV.out.2.1] at hKI
     have HKI:=hid hKI
     clear hKI hrn
     refine HKI.out.mono ?_
     rintro e w5 ⟨rfl,v5,h5⟩
     have H5:=hid (H4.out.to h5)
     clear h5
     go_wp2_with fail
     refine (dG [125,10] H5.out HV.out.2.2.2.2.2.2.2.1).mono ?_
     rw [HV.out.2.2.1]
     rintro e w6 ⟨rfl,v6,h6⟩
     have H6:=hid (H5.out.to h6)
     clear h6
     obtain ⟨⟨p0,d0⟩,d2,d3,d4,f3,f4,hgl⟩:=H6.out.cells
     have HST:=hid (wV H6.out.wr HV.out.2.2.2.2.1)
     have HST2:=hid (wV (H6.out.below (J_ _ _).drew).wr HV.out.2.2.2.2.1)
     go_wp2_with fail
     go_region_with (go_at_call 68;(first | refine HST.out.mono ?_ | refine HST2.out.mono ?_);rintro e w7 ⟨rfl,hb7,hg7⟩;have H7:Hid (Below w.heap.size w w7):=hid (by first | exact H6.out.low.trans hb7 | exact (H6.out.below (J_ _ _).drew).low.trans hb7);have z4:w7.cell? ⟨g,4,none⟩=some (.bool sD.bad):=(World.cell?_of_block (a:=⟨g,4,none⟩) hg7).trans d4;have hgl7:g<w7.heap.size:=N_ w7 _ z4;clear hb7 hg7;(try go_wp2_with fail))
     all_goals
      go_wp2_with fail
      refine L_ (v:=.tuple #[.string (str sD.out),.bool (!sD.bad)]) (by simp [results,results41,go_sem, *]) rfl ?_
      exact ⟨by rw [←HV.out.2.2.2.1],H7.out⟩
end Go.Proofs.YtgcfjkfipkfijaaGreatDoor
