/- Part 23 of the proof of rtrees_card; no conditions. -/
import Derived.Test.YtgcfjkfipkfijaaGreatDoorTr01
import Derived.Test.YtgcfjkfipkfijaaGreatDoorTr19
import Derived.Test.YtgcfjkfipkfijaaGreatDoorTr22
set_option maxRecDepth 100000
set_option maxHeartbeats 16000000
namespace Go.Proofs.YtgcfjkfipkfijaaGreatDoor
open Go Go.RowKit Go.Lib _root_.Go.Proofs.Tryz
variable {P Q : Nat → Prop}
theorem Og (args W):(callFunc 99 args).run prog W=.ok (.enter 99 args) W:=enters_of func99 (by kernel_rfl) rfl args W
theorem Oh (args W):(callFunc 71 args).run prog W=.ok (.enter 71 args) W:=enters_of func71 (by kernel_rfl) rfl args W
open Classical in
theorem Iw (x y:Ar) (A:Option Addr) (c:Nat) (B:Option Addr) (d:Nat) (w:World) (ha:cR P w x.e A c) (hb:cR Q w y.e B d) :
  Calls prog 99 #[.agg #[.string x.name,.int .i64 x.e.op,.int .i64 x.e.n,.string x.e.name,.slice A x.e.kids.length c],.agg #[.string y.name,.int .i64 y.e.op,.int .i64 y.e.n,.string y.e.name,.slice B y.e.kids.length d]] w
   fun r w'=>r=.returned (.bool (decide (x=y)))∧Below w.heap.size w w':=by
 obtain ⟨nm,e⟩:=x
 obtain ⟨nm',e'⟩:=y
 simp only at ha hb ⊢
 have HE:Hid (∀W,Below w.heap.size w W→Calls prog 100 #[eJ e A c,eJ e' B d] W fun r w'=>r=.returned (.bool (decide (e=e')))∧Below W.heap.size W w'):=hid (fun W hW=>Ac e e' A c B d W (ha.below hW) (hb.below hW))
 obtain ⟨q,hq⟩:=nm_ (decide (e=e'))
 rw [hq] at HE
 obtain ⟨R,hR⟩:=nm_ (decide ((⟨nm,e⟩:Ar)=⟨nm',e'⟩))
 rw [hR]
 obtain ⟨w0,hw0,hal,hx,hy⟩:=kP (w:=w) (cs:=#[.string nm,.int .i64 e.op,.int .i64 e.n,.string e.name,.slice A e.kids.length c]) (ds:=#[.string nm',.int .i64 e'.op,.int .i64 e'.n,.string e'.name,.slice B e'.kids.length d]) (t:=75) (u:=75)
 obtain ⟨x0,x1,x2,x3,x4⟩:=Ls hx
 obtain ⟨y0,y1,y2,y3,y4⟩:=Ls hy
 have hlx:=aC hx
 have hly:=aC hy
 have HW0:=hid hw0
 have HAL:=hid hal
 have HR:=hj_ hq hR
 clear ha hb hx hy hw0 hal hq hR
 by_cases h1:nm=nm'
 ·subst h1
  have HQ:Hid (R=q):=hid (by rw [←HR.out.1,←HR.out.2];simp)
  go_enter func99,ntmps99
  go_wp2_with fail
  rw [HW0.out]
  refine (HE.out _ HAL.out).mono ?_
  rintro r w5 ⟨rfl,hb5⟩
  have HB5:=tm_ HAL hb5
  clear hb5
  go_wp2_with fail
  go_ret
  exact ⟨by rw [HQ.out];rfl,HB5.out⟩
 ·have HQ:Hid (R=false):=hid (by rw [←HR.out.2];exact V_ (fun e=>h1 (by injection e)))
  obtain ⟨t1,t3⟩:=jB h1
  go_enter func99,ntmps99
  go_wp2_with fail
  rw [HW0.out]
  go_ret
  exact ⟨by rw [HQ.out];rfl,HAL.out⟩
theorem vK {w:World} {k:Nat} {v0 v1 v2 v3 v4 v5 v6 v7 v8:Value} {t:TypeId} (h:w.heap[k]? = some (.cells #[v0,v1,v2,v3,v4,v5,v6,v7,v8] t (0,0))) :
  (w.cell? ⟨k,0,none⟩=some v0∧w.cell? ⟨k,1,none⟩=some v1∧w.cell? ⟨k,2,none⟩=some v2∧w.cell? ⟨k,3,none⟩=some v3∧w.cell? ⟨k,4,none⟩=some v4)∧w.cell? ⟨k,5,none⟩=some v5∧w.cell? ⟨k,6,none⟩=some v6∧w.cell? ⟨k,7,none⟩=some v7∧w.cell? ⟨k,8,none⟩=some v8:=
 ⟨⟨aB h 0,aB h 1,aB h 2,aB h 3,aB h 4⟩,aB h 5,aB h 6,aB h 7,aB h 8⟩
open Classical in
theorem Oi (x y:Nd) (kA:Option Addr) (kc:Nat) (uA:Option Addr) (uc:Nat) (gA:Option Addr) (gc:Nat) (eA:Option Addr) (ec:Nat) (kA':Option Addr) (kc':Nat) (uA':Option Addr) (uc':Nat) (gA':Option Addr) (gc':Nat) (eA':Option Addr) (ec':Nat) (w:World)
  (ha:Qp P w x kA kc uA uc gA gc eA ec) (hb:Qp Q w y kA' kc' uA' uc' gA' gc' eA' ec') :
  Calls prog 71 #[AA x kA kc uA uc gA gc eA ec,AA y kA' kc' uA' uc' gA' gc' eA' ec'] w fun r w'=>r=.returned (.bool (decide (x=y)))∧Below w.heap.size w w':=by
 obtain ⟨k,ki,us,nm,al,e⟩:=x
 obtain ⟨k',ki',us',nm',al',e'⟩:=y
 have H1:Hid (∀W,Below w.heap.size w W→Calls prog 101 #[.slice kA ki.length kc,.slice kA' ki'.length kc'] W fun r w'=>r=.returned (.bool (decide (ki=ki')))∧Below W.heap.size W w'):=hid (fun W hW=>Wp (ha.kids.below hW) (hb.kids.below hW))
 have H2:Hid (∀W,Below w.heap.size w W→Calls prog 102 #[.slice uA us.length uc,.slice uA' us'.length uc'] W fun r w'=>r=.returned (.bool (decide (us=us')))∧Below W.heap.size W w'):=hid (fun W hW=>Wq (ha.units.below hW) (hb.units.below hW))
 have H3:Hid (∀W,Below w.heap.size w W→Calls prog 103 #[.slice gA al.length gc,.slice gA' al'.length gc',.func (.func 99) #[] #[]] W fun r w'=>r=.returned (.bool (decide (al=al')))∧Below W.heap.size W w'):=
  hid (fun W hW=>Wt (ha.args.below hW) (hb.args.below hW) Og (fun i hi hj u v W' hW' hu hv=>by
   obtain ⟨A,c,rfl,hx⟩:=hu
   obtain ⟨B,d,rfl,hy⟩:=hv
   exact Iw _ _ A c B d W' hx hy))
 have H4:Hid (∀W,Below w.heap.size w W→Calls prog 100 #[eJ e eA ec,eJ e' eA' ec'] W fun r w'=>r=.returned (.bool (decide (e=e')))∧Below W.heap.size W w'):=hid (fun W hW=>Ac e e' eA ec eA' ec' W (ha.ex.below hW) (hb.ex.below hW))
 obtain ⟨q1,hq1⟩:=nm_ (decide (ki=ki'))
 obtain ⟨q2,hq2⟩:=nm_ (decide (us=us'))
 obtain ⟨q3,hq3⟩:=nm_ (decide (al=al'))
 obtain ⟨q4,hq4⟩:=nm_ (decide (e=e'))
 rw [hq1] at H1
 rw [hq2] at H2
 rw [hq3] at H3
 rw [hq4] at H4
 obtain ⟨R,hR⟩:=nm_ (decide ((⟨k,ki,us,nm,al,e⟩:Nd)=⟨k',ki',us',nm',al',e'⟩))
 rw [hR]
 have hRR:R=(k == k' && (decide (nm=nm') && (q1 && (q2 && (q3 && q4))))):=by
  rw [←hR,←hq1,←hq2,←hq3,←hq4,Bool.eq_iff_iff]
  simp only [a_,decide_eq_true_eq,beq_iff_eq,Nd.mk.injEq]
  exact ⟨fun ⟨a,b,c,d,e,f⟩=>⟨a,d,b,c,e,f⟩,fun ⟨a,d,b,c,e,f⟩=>⟨a,b,c,d,e,f⟩⟩
 obtain ⟨w0,hw0,hal,hx,hy⟩:=kP (w:=w) (cs:=#[.int .i64 k,.slice kA ki.length kc,.slice uA us.length uc,.string nm,.slice gA al.length gc,.int .i64 e.op,.int .i64 e.n,.string e.name,.slice eA e.kids.length ec])
  (ds:=#[.int .i64 k',.slice kA' ki'.length kc',.slice uA' us'.length uc',.string nm',.slice gA' al'.length gc',.int .i64 e'.op,.int .i64 e'.n,.string e'.name,.slice eA' e'.kids.length ec']) (t:=43) (u:=43)
 have HX:=hid hx
 have HY:=hid hy
 obtain ⟨⟨x0,x1,x2,x3,x4⟩,x5,x6,x7,x8⟩:=vK hx
 obtain ⟨⟨y0,y1,y2,y3,y4⟩,y5,y6,y7,y8⟩:=vK hy
 have hlx:=aC hx
 have hly:=aC hy
 have HW0:=hid hw0
 have HAL:=hid hal
 have HR:=hid hRR
 clear ha hb hx hy hw0 hal hq1 hq2 hq3 hq4 hR hRR
 have key:(k == k')=false∨k=k'∧((nm.data.toList == nm'.data.toList)=false∧(nm.toList == nm'.toList)=false∧nm≠nm'∨nm=nm'):=by
  by_cases e1:k=k'
  ·refine .inr ⟨e1,?_⟩
   by_cases e2:nm=nm'
   ·exact .inr e2
   ·exact .inl ⟨(jB e2).1,(jB e2).2,e2⟩
  ·exact .inl (aW e1)
 rcases key with t1 | ⟨rfl,⟨t1,t3,t4⟩ | rfl⟩
 ·go_enter func71,ntmps71
  go_wp2_with fail
  rw [HW0.out]
  go_ret
  exact ⟨by rw [HR.out,t1];rfl,HAL.out⟩
 ·have HQ:Hid (R=false):=hid (by rw [HR.out,V_ t4,Bool.false_and,Bool.and_false])
  clear t4
  go_enter func71,ntmps71
  go_wp2_with fail
  rw [HW0.out]
  go_ret
  exact ⟨by rw [HQ.out];rfl,HAL.out⟩
 ·have HQ:Hid (R=(q1 && (q2 && (q3 && q4)))):=hid (by rw [HR.out,W_ rfl,beq_self_eq_true,Bool.true_and,Bool.true_and])
  go_enter func71,ntmps71
  go_wp2_with fail
  rw [HW0.out]
  refine (H1.out _ HAL.out).mono ?_
  rintro r w1 ⟨rfl,hb1⟩
  have HB1:=hk_ (HAL.out.trans (hb1.mono HAL.out.size)) ((hb1.block _ hlx).trans HX.out) ((hb1.block _ hly).trans HY.out)
  clear hb1 x0 x1 x2 x3 x4 x5 x6 x7 x8 y0 y1 y2 y3 y4 y5 y6 y7 y8 hlx hly
  cases q1
  ·go_wp2_with fail
   go_ret
   exact ⟨by rw [HQ.out];rfl,HB1.out.1⟩
  obtain ⟨⟨_,_,x2,_,_⟩,_⟩:=vK HB1.out.2.1
  obtain ⟨⟨_,_,y2,_,_⟩,_⟩:=vK HB1.out.2.2
  have hlx:=aC HB1.out.2.1
  have hly:=aC HB1.out.2.2
  go_wp2_with fail
  refine (H2.out _ HB1.out.1).mono ?_
  rintro r w2 ⟨rfl,hb2⟩
  have HB2:=hk_ (HB1.out.1.trans (hb2.mono HB1.out.1.size)) ((hb2.block _ hlx).trans HB1.out.2.1) ((hb2.block _ hly).trans HB1.out.2.2)
  clear hb2 x2 y2 hlx hly
  cases q2
  ·go_wp2_with fail
   go_ret
   exact ⟨by rw [HQ.out];rfl,HB2.out.1⟩
  obtain ⟨⟨_,_,_,_,x4⟩,_⟩:=vK HB2.out.2.1
  obtain ⟨⟨_,_,_,_,y4⟩,_⟩:=vK HB2.out.2.2
  have hlx:=aC HB2.out.2.1
  have hly:=aC HB2.out.2.2
  go_wp2_with fail
  refine (H3.out _ HB2.out.1).mono ?_
  rintro r w3 ⟨rfl,hb3⟩
  have HB3:=hk_ (HB2.out.1.trans (hb3.mono HB2.out.1.size)) ((hb3.block _ hlx).trans HB2.out.2.1) ((hb3.block _ hly).trans HB2.out.2.2)
  clear hb3 x4 y4 hlx hly
  cases q3
  ·go_wp2_with fail
   go_ret
   exact ⟨by rw [HQ.out];rfl,HB3.out.1⟩
  obtain ⟨_,x5,x6,x7,x8⟩:=vK HB3.out.2.1
  obtain ⟨_,y5,y6,y7,y8⟩:=vK HB3.out.2.2
  have hlx:=aC HB3.out.2.1
  have hly:=aC HB3.out.2.2
  go_wp2_with fail
  refine (H4.out _ HB3.out.1).mono ?_
  rintro r w4 ⟨rfl,hb4⟩
  have HB4:=hid (HB3.out.1.trans (hb4.mono HB3.out.1.size))
  clear hb4 x5 x6 x7 x8 y5 y6 y7 y8 hlx hly
  go_wp2_with fail
  go_ret
  exact ⟨by rw [HQ.out];rfl,HB4.out⟩
structure kI (P:Nat→Prop) (w:World) (r:tL) (pA:Option Addr) (pc:Nat) (nA:Option Addr) (nc:Nat):Prop where
 prms:aO kE P w pA pc r.params
 nds:aO yS P w nA nc r.nodes
theorem kI.below {P w w' r pA nA pc nc} (h:kI P w r pA pc nA nc) (hs:Below w.heap.size w w'):kI P w' r pA pc nA nc:=⟨h.prms.below hs,h.nds.below hs⟩
abbrev iG (r:tL) (pA:Option Addr) (pc:Nat) (nA:Option Addr) (nc:Nat):Value:=.agg #[.string r.name,.slice pA r.params.length pc,.slice nA r.nodes.length nc]
open Classical in
theorem Oj (x y:tL) (pA:Option Addr) (pc:Nat) (nA:Option Addr) (nc:Nat) (pA':Option Addr) (pc':Nat) (nA':Option Addr) (nc':Nat) (w:World) (ha:kI P w x pA pc nA nc) (hb:kI Q w y pA' pc' nA' nc') :
  Calls prog 42 #[iG x pA pc nA nc,iG y pA' pc' nA' nc'] w fun r w'=>r=.returned (.bool (decide (x=y)))∧Below w.heap.size w w':=by
 obtain ⟨nm,ps,ns⟩:=x
 obtain ⟨nm',ps',ns'⟩:=y
 have H1:Hid (∀W,Below w.heap.size w W→Calls prog 69 #[.slice pA ps.length pc,.slice pA' ps'.length pc'] W fun r w'=>r=.returned (.bool (decide (ps=ps')))∧Below W.heap.size W w'):=hid (fun W hW=>Wr (ha.prms.below hW) (hb.prms.below hW))
 have H2:Hid (∀W,Below w.heap.size w W→Calls prog 70 #[.slice nA ns.length nc,.slice nA' ns'.length nc',.func (.func 71) #[] #[]] W fun r w'=>r=.returned (.bool (decide (ns=ns')))∧Below W.heap.size W w'):=
  hid (fun W hW=>Wu (ha.nds.below hW) (hb.nds.below hW) Oh (fun i hi hj u v W' hW' hu hv=>by
   obtain ⟨a1,a2,a3,a4,a5,a6,a7,a8,rfl,hx⟩:=hu
   obtain ⟨b1,b2,b3,b4,b5,b6,b7,b8,rfl,hy⟩:=hv
   exact Oi _ _ _ _ _ _ _ _ _ _ _ _ _ _ _ _ _ _ W' hx hy))
 obtain ⟨q1,hq1⟩:=nm_ (decide (ps=ps'))
 obtain ⟨q2,hq2⟩:=nm_ (decide (ns=ns'))
 rw [hq1] at H1
 rw [hq2] at H2
 obtain ⟨R,hR⟩:=nm_ (decide ((⟨nm,ps,ns⟩:tL)=⟨nm',ps',ns'⟩))
 rw [hR]
 have hRR:R=(decide (nm=nm') && (q1 && q2)):=by
  rw [←hR,←hq1,←hq2,Bool.eq_iff_iff]
  simp only [a_,decide_eq_true_eq,tL.mk.injEq]
 obtain ⟨w0,hw0,hal,hx,hy⟩:=kP (w:=w) (cs:=#[.string nm,.slice pA ps.length pc,.slice nA ns.length nc]) (ds:=#[.string nm',.slice pA' ps'.length pc',.slice nA' ns'.length nc']) (t:=26) (u:=26)
 have HX:=hid hx
 have HY:=hid hy
 obtain ⟨⟨x0,x1,x2⟩,_⟩:=bH hx
 obtain ⟨⟨y0,y1,y2⟩,_⟩:=bH hy
 have hlx:=aC hx
 have hly:=aC hy
 have HW0:=hid hw0
 have HAL:=hid hal
 have HR:=hid hRR
 clear ha hb hx hy hw0 hal hq1 hq2 hR hRR
 by_cases e1:nm=nm'
 ·subst e1
  have HQ:Hid (R=(q1 && q2)):=hid (by rw [HR.out,W_ rfl,Bool.true_and])
  go_enter func42,ntmps42
  go_wp2_with fail
  rw [HW0.out]
  refine (H1.out _ HAL.out).mono ?_
  rintro r w1 ⟨rfl,hb1⟩
  have HB1:=hk_ (HAL.out.trans (hb1.mono HAL.out.size)) ((hb1.block _ hlx).trans HX.out) ((hb1.block _ hly).trans HY.out)
  clear hb1 x0 x1 x2 y0 y1 y2 hlx hly
  cases q1
  ·go_wp2_with fail
   go_ret
   exact ⟨by rw [HQ.out];rfl,HB1.out.1⟩
  obtain ⟨⟨_,_,x2⟩,_⟩:=bH HB1.out.2.1
  obtain ⟨⟨_,_,y2⟩,_⟩:=bH HB1.out.2.2
  have hlx:=aC HB1.out.2.1
  have hly:=aC HB1.out.2.2
  go_wp2_with fail
  refine (H2.out _ HB1.out.1).mono ?_
  rintro r w2 ⟨rfl,hb2⟩
  have HB2:=hid (HB1.out.1.trans (hb2.mono HB1.out.1.size))
  clear hb2 x2 y2 hlx hly
  go_wp2_with fail
  go_ret
  exact ⟨by rw [HQ.out];rfl,HB2.out⟩
 ·have HQ:Hid (R=false):=hid (by rw [HR.out,V_ e1,Bool.false_and])
  obtain ⟨t1,t3⟩:=jB e1
  clear e1
  go_enter func42,ntmps42
  go_wp2_with fail
  rw [HW0.out]
  go_ret
  exact ⟨by rw [HQ.out];rfl,HAL.out⟩
end Go.Proofs.YtgcfjkfipkfijaaGreatDoor
namespace Go.Proofs.YtgcfjkfipkfijaaGreatDoor
open Go Go.RowKit Go.Lib _root_.Go.Proofs.Tryz
theorem Ok {r} (hr:rI r):((fF r).1.length:Int)≤1099511627778:=by
 unfold fF
 split
 ·simp
 ·rename_i hc
  unfold Lq
  have h1:=pY r.params hr.prm
  have h2:(gN r).length≤65544:=by
   unfold gN
   simp only [O_,cA,P_,b_]
   have:=hr.name
   omega
  obtain ⟨sB,hsB⟩:=nm_ (⟨gN r++dA r.params++[123,10],r.nodes.length,false⟩:WS)
  have hBl:sB.left=r.nodes.length:=by rw [←hsB]
  have hBo:sB.out.length≤400000:=by
   rw [←hsB]
   simp only [O_,P_,b_]
   omega
  have hBp:pot sB≤1099511627776:=by
   unfold pot So
   rw [hBl]
   split <;> omega
  rw [hsB]
  have hkn:=sN hr.nd 24 (-101) 0 [32,32] sB (by decide) (by decide) (by omega)
  have h3:=rH (eF r.nodes (bY r.nodes 24) 0 [32,32] sB)
  have h4:=hkn.pot
  unfold dP
  simp only [O_,P_,b_]
  omega
open Classical in
theorem sR {P:Nat→Prop} (r:tL) (pA:Option Addr) (pc:Nat) (nA:Option Addr) (nc:Nat) (w:World) (h:kI P w r pA pc nA nc) (hr:rI r) (hT:cF w) :
  Calls prog 13 #[iG r pA pc nA nc] w fun e w'=>e=.returned (.bool (nW r))∧Below w.heap.size w w':=by
 obtain ⟨w1,hw1,hb1,_⟩:=alo_ w (.cells #[.string r.name,.slice pA r.params.length pc,.slice nA r.nodes.length nc] 26)
 have hx1:w1.heap[w.heap.size]? = some (.cells #[.string r.name,.slice pA r.params.length pc,.slice nA r.nodes.length nc] 26 (0,0)):=hw1▸I_ _ _
 have HTX:=hid (Ab r pA pc nA nc w1 (h.below hb1).prms (h.below hb1).nds hr (hT.below hb1))
 obtain ⟨ANS,hANS⟩:=nm_ (nW r)
 rw [hANS]
 unfold nW at hANS
 obtain ⟨⟨t,ok⟩,ht⟩:∃x,fF r=x:=⟨_,rfl⟩
 rw [ht] at HTX hANS
 obtain ⟨⟨x,e,a⟩,hx⟩:∃x,iF (str t)=x:=⟨_,rfl⟩
 simp only [hx] at hANS HTX
 have H:=hid (⟨h,hT,hb1,hx,hANS,hx1⟩:_∧_∧_∧_∧_∧_)
 have HW1:=hid hw1
 obtain ⟨⟨x0,x1,x2⟩,_⟩:=bH hx1
 have hlx:=aC hx1
 have HL:=hid (show (str t).size≤9223372036854775806 from by
  have h1:=Ok hr
  rw [ht] at h1
  simp only at h1
  rw [bW]
  omega)
 clear h hr hT hb1 hx hANS hx1 hw1 ht
 go_enter func13,ntmps13
 go_wp2_with fail
 rw [HW1.out]
 refine HTX.out.mono ?_
 rintro e1 w2 ⟨rfl,hb2⟩
 have H2:=hj_ (H.out.2.2.1.trans (hb2.mono H.out.2.2.1.size)) ((hb2.block _ hlx).trans H.out.2.2.2.2.2)
 clear hb2 x0 x1 x2 hlx
 cases ok
 ·have HQ:Hid (ANS=false):=hid (by rw [←H.out.2.2.2.2.1];rfl)
  go_wp2_with fail
  go_ret
  exact ⟨by rw [HQ.out];rfl,H2.out.1⟩
 ·have hA:=H.out.2.2.2.2.1
  rw [Bool.true_and] at hA
  have HA:=hid hA
  have HPA:=hid (xD (str t) w2 (H.out.2.1.below H2.out.1) HL.out)
  rw [H.out.2.2.2.1] at HPA
  clear hA
  go_wp2_with fail
  refine HPA.out.mono ?_
  rintro e1 w3 ⟨pA',pc',nA',nc',rfl,hp3,hn3,hb3⟩
  simp only at hp3 hn3
  obtain ⟨w4,hw4,hb4,_⟩:=alo_ w3 (.cells #[.string x.name,.slice pA' x.params.length pc',.slice nA' x.nodes.length nc'] 26)
  have hy4:w4.heap[w3.heap.size]? = some (.cells #[.string x.name,.slice pA' x.params.length pc',.slice nA' x.nodes.length nc'] 26 (0,0)):=hw4▸I_ _ _
  have hb34:=H2.out.1.trans ((hb3.trans (hb4.mono hb3.size)).mono H2.out.1.size)
  have hx4:=((hb3.trans (hb4.mono hb3.size)).block _ (aC H2.out.2)).trans H2.out.2
  have HS:=hid (Oj x r pA' pc' nA' nc' pA pc nA nc w4 (kI.below ⟨hp3,hn3⟩ hb4) (H.out.1.below hb34))
  have HB4:=hid hb34
  have HW4:=hid hw4
  obtain ⟨⟨x0,x1,x2⟩,_⟩:=bH hx4
  obtain ⟨⟨y0,y1,y2⟩,_⟩:=bH hy4
  have hlx:=aC hx4
  have hly:=aC hy4
  clear hp3 hn3 hb3 hb4 hw4 hy4 hx4 hb34
  by_cases he:e=0
  ·subst he
   have HQ:Hid (ANS=decide (x=r)):=hid (by rw [←HA.out];rfl)
   clear HA
   go_upto_region 5 with fail
   rw [HW4.out]
   go_wp2_with fail
   refine HS.out.mono ?_
   rintro e1 w5 ⟨rfl,hb5⟩
   have HB5:=tm_ HB4 hb5
   clear hb5
   go_wp2_with fail
   go_ret
   exact ⟨by rw [HQ.out];rfl,HB5.out⟩
  ·have t1:=aW he
   have HQ:Hid (ANS=false):=hid (by rw [←HA.out,t1];rfl)
   clear he
   go_wp2_with fail
   rw [HW4.out]
   go_ret
   exact ⟨by rw [HQ.out];rfl,HB4.out⟩
end Go.Proofs.YtgcfjkfipkfijaaGreatDoor
namespace Go.Proofs.YtgcfjkfipkfijaaGreatDoor
open Go Go.RowKit Go.Lib _root_.Go.Proofs.Tryz
theorem xE {P} (r pA pc nA nc w) (h:kI P w r pA pc nA nc) (hr:rI r) (hT:cF w) :
  Calls prog 14 #[iG r pA pc nA nc] w fun e w'=>e=.returned (.string (nX r))∧Below w.heap.size w w':=by
 obtain ⟨w1,hw1,hb1,_⟩:=alo_ w (.cells #[.string r.name,.slice pA r.params.length pc,.slice nA r.nodes.length nc] 26)
 have hx1:w1.heap[w.heap.size]? = some (.cells #[.string r.name,.slice pA r.params.length pc,.slice nA r.nodes.length nc] 26 (0,0)):=hw1▸I_ _ _
 have HMY:=hid (sR r pA pc nA nc w1 (h.below hb1) hr (hT.below hb1))
 have HTX:=hid (fun W (hW:Below w.heap.size w W)=>Ab r pA pc nA nc W (h.below hW).prms (h.below hW).nds hr (hT.below hW))
 obtain ⟨q,hq⟩:=nm_ (nW r)
 obtain ⟨ANS,hANS⟩:=nm_ (nX r)
 rw [hANS]
 unfold nX at hANS
 rw [hq] at HMY hANS
 have H:=hk_ hb1 hx1 hANS
 have HW1:=hid hw1
 obtain ⟨⟨x0,x1,x2⟩,_⟩:=bH hx1
 have hlx:=aC hx1
 clear h hr hT hb1 hANS hx1 hw1 hq
 go_enter func14,ntmps14
 go_wp2_with fail
 rw [HW1.out]
 refine HMY.out.mono ?_
 rintro e1 w2 ⟨rfl,hb2⟩
 have H2:=hj_ (H.out.1.trans (hb2.mono H.out.1.size)) ((hb2.block _ hlx).trans H.out.2.1)
 clear hb2 x0 x1 x2 hlx
 cases q
 ·have HQ:Hid (ANS=⟨#[]⟩):=hid (by rw [←H.out.2.2];rfl)
  go_wp2_with fail
  go_ret
  exact ⟨by rw [HQ.out];rfl,H2.out.1⟩
 ·have HQ:Hid (ANS=str (fF r).1):=hid (by rw [←H.out.2.2];rfl)
  obtain ⟨⟨x0,x1,x2⟩,_⟩:=bH H2.out.2
  have hlx:=aC H2.out.2
  go_wp2_with fail
  refine (HTX.out _ H2.out.1).mono ?_
  rintro e1 w3 ⟨rfl,hb3⟩
  have H3:=hid (H2.out.1.trans (hb3.mono H2.out.1.size))
  clear hb3 x0 x1 x2 hlx
  go_wp2_with fail
  go_ret
  exact ⟨by rw [HQ.out];rfl,H3.out⟩
theorem Ww {P w k s t} (hk:¬P k) (h:w.heap[k]? = some (.cells #[.string s] t (0,0))):aO aN.str P w (some ⟨k,0,none⟩) 1 [s]:=
 ⟨H_ _,fun M hM=>⟨by show 1≤_;decide,fun _=>⟨⟨k,0,none⟩,rfl,fun hc=>hk (hM _ hc),aC h,fun i hi=>by
  match i,hi with
  | 0,_=>exact ⟨[.string s],rfl,fun j u hu=>by
    match j,hu with
    | 0,hu=>exact (aB h 0).trans hu⟩⟩⟩⟩
theorem Fb (l s):(kG l s).length≤l.length+1:=by
 unfold kG
 split
 ·omega
 ·simp
structure De (w:World) (wr:World) (B:Option Addr) (b:Nat) (os:List ByteArray):Prop where
 row:aR aN.str 9 w.heap.size (fun k=>k<w.heap.size) wr B os.length b (os.map sE)
 below:Below w.heap.size w wr
theorem De.step {w wr w' B b os} (h:De w wr B b os) (hb:Below wr.heap.size wr w'):De w w' B b os:=⟨h.row.below hb,h.below.trans (hb.mono h.below.size)⟩
theorem De.post {w wr B b os} (h:De w wr B b os):aO aN.str (fun k=>k<w.heap.size) wr B b os:=by
 have h1:=h.row.out (fun _ h=>h) (fun q hq=>by obtain ⟨p,_,rfl⟩:=List.mem_map.1 hq;rfl)
 rwa [List.map_map,show ((fun q:ByteArray × List Value=>q.1) ∘ sE)=id from rfl,List.map_id] at h1
theorem De.push {w wr w6 B b g cap os s} (h:De w wr B b os) (hG:aR aN.str 9 w.heap.size (fun k=>k<w.heap.size) w6 (some ⟨g,0,none⟩) (os.length+1) cap (os.map sE++[(s,[.string s])])) (hS:Same (Value.slice B os.length b).ownBlock.toList wr w6):De w w6 (some ⟨g,0,none⟩) cap (os++[s]):=by
 have hl:(os++[s]).length=os.length+1:=by simp
 refine ⟨by rw [hl,f_];exact hG,?_⟩
 exact ((Same.of_below (M:=[]) h.below).trans hS (fun x hx=>.inr (h.row.blk x (by simpa using hx)).1)).below
theorem De.next {w wr w6 B V b g cap v N os ls s ob} (h:De w wr B b os) (hrow:aO aN.str (fun k=>(Value.slice B os.length b).ownBlock=some k) wr V v ls) (hne:∀k,(Value.slice B os.length b).ownBlock=some k→k≠N) (hbox:wr.heap[N]? = some ob) (hG:aR aN.str 9 w.heap.size (fun k=>k<w.heap.size) w6 (some ⟨g,0,none⟩) (os.length+1) cap (os.map sE++[(s,[.string s])])) (hS:Same (Value.slice B os.length b).ownBlock.toList wr w6) (hg:(Value.slice B os.length b).ownBlock=some g∨wr.heap.size<g) :
  De w w6 (some ⟨g,0,none⟩) cap (os++[s])∧aO aN.str (fun k=>(Value.slice (some ⟨g,0,none⟩) (os++[s]).length cap).ownBlock=some k) w6 V v ls∧(∀k,(Value.slice (some ⟨g,0,none⟩) (os++[s]).length cap).ownBlock=some k→k≠N)∧w6.heap[N]? = some ob:=by
 have hN:=aC hbox
 have hg':∀k,(Value.slice (some ⟨g,0,none⟩) (os++[s]).length cap).ownBlock=some k→k=g:=fun k hk=>by have:some g=some k:=hk;exact (e_ this).symm
 refine ⟨h.push hG hS,?_,fun k hk=>?_,hS.heap (fun hc=>hne N (by simpa using hc) rfl) hbox⟩
 ·have h1:=(hrow.more (Q:=fun k=>(Value.slice B os.length b).ownBlock=some k∨k=g) (fun k hk=>hk.elim .inl (fun e=>by
   subst e
   exact hg.elim .inl (fun h=>.inr (j_ h))))).keep hS (fun k hk=>.inl (by simpa using hk))
  exact h1.more (fun k hk=>.inl (.inr (hg' k hk)))
 ·obtain rfl:=hg' k hk
  exact hg.elim (hne k) (fun h=>by omega)
def eS (l:List ByteArray) (w:World) (e:Ending) (w':World):Prop:=∃B b,e=.returned (.slice B l.length b)∧aO aN.str (fun k=>k<w.heap.size) w' B b l∧Below w.heap.size w w'
theorem Ad {P} (r pA pc nA nc kind w) (h:kI P w r pA pc nA nc) (hr:rI r) (hT:cF w) :
  Calls prog 45 #[iG r pA pc nA nc,.int .i64 kind] w (eS (gW r kind) w):=by
 obtain ⟨w1,hw1,hb1,_⟩:=alo_ w (.cells #[.string r.name,.slice pA r.params.length pc,.slice nA r.nodes.length nc] 26)
 have hx1:w1.heap[w.heap.size]? = some (.cells #[.string r.name,.slice pA r.params.length pc,.slice nA r.nodes.length nc] 26 (0,0)):=hw1▸I_ _ _
 have HMY:=hid (sR r pA pc nA nc w1 (h.below hb1) hr (hT.below hb1))
 obtain ⟨q,hq⟩:=nm_ (nW r)
 obtain ⟨ANS,hANS⟩:=nm_ (gW r kind)
 rw [hANS]
 unfold gW at hANS
 rw [hq] at HMY hANS
 have hnm:=(h.nds.2 [] (by simp)).1
 have hnc:=h.nds.1
 have h24:q=true→r.nodes.length≤24:=fun hq'=>by
  have h1:=((lP r).1 (hq.trans hq')).1
  unfold fF at h1
  split at h1
  ·exact absurd h1 (by decide)
  ·omega
 have H:=hid (⟨hb1,hx1,hANS,h.nds.more (Q:=fun k=>w.heap.size≤k) (fun k hk=>.inr hk),hr,h24⟩:_∧_∧_∧_∧_∧_)
 have HW1:=hid hw1
 obtain ⟨⟨x0,x1,x2⟩,_⟩:=bH hx1
 have hlx:=aC hx1
 clear h hr hT hb1 hANS hx1 hw1 hq h24
 go_enter func45,ntmps45
 go_wp2_with fail
 rw [HW1.out]
 refine HMY.out.mono ?_
 rintro e1 w2 ⟨rfl,hb2⟩
 have H2:=hj_ (H.out.1.trans (hb2.mono H.out.1.size)) ((hb2.block _ hlx).trans H.out.2.1)
 clear hb2 x0 x1 x2 hlx
 cases q
 ·have HQ:Hid (ANS=[]):=hid (by rw [←H.out.2.2.1];rfl)
  go_wp2_with fail
  refine L_ (v:=.slice none 0 0) (by simp [results,results45,go_sem, *]) rfl ?_
  rw [HQ.out]
  exact ⟨none,0,rfl,aO.nil _ _ _ _ _,H2.out.1⟩
 have HQ:Hid ((r.nodes.flatMap (fG kind)).foldl kG []=ANS∧r.nodes.length≤24):=hid ⟨by rw [←H.out.2.2.1];rfl,H.out.2.2.2.2.2 rfl⟩
 obtain ⟨⟨x0,x1,x2⟩,_⟩:=bH H2.out.2
 have hlx:=aC H2.out.2
 go_wp2_with fail
 go_loopg [5,17] (r.nodes.length+1) (fun q s5 s17 wr=>∃(i:Nat) (B:Option Addr) (b:Nat) (os:List ByteArray),s5=.slice B os.length b∧s17=.int .i64 (i:Nat)∧i≤r.nodes.length∧r.nodes.length - i<q∧((r.nodes.drop i).flatMap (fG kind)).foldl kG os=ANS∧os.length≤i*65536∧De w wr B b os)
 case atStart=>exact ⟨0,none,0,[],rfl,rfl,h_ _,by omega,HQ.out.1,h_ _,⟨aR.nil _ _ _ _ _,H2.out.1⟩⟩
 case round=>
  obtain ⟨i,B,b,os,rfl,rfl,hin,hiq,hans,hol,hW⟩:=hrel
  obtain ⟨gk,rfl⟩:=pk_ gk 1 (by omega)
  clear x0 x1 x2 hlx
  by_cases hlt:i<r.nodes.length
  ·have hR:=H.out.2.2.2.1.below hW.below
   obtain ⟨ad,rfl⟩:=fN hR i hlt
   obtain ⟨kA,kc,uA,uc,gA,gc,eA,ec,⟨c0,c1,c2,c3,c4,c5,c6,c7,c8⟩,_,hur,_,_,hnl⟩:=eG hR i hlt
   have hN:=H.out.2.2.2.2.1.nd _ (g_ hlt)
   obtain ⟨x,hx⟩:=nm_ (r.nodes[i])
   have hdr:(r.nodes.drop i).flatMap (fG kind)=fG kind x++(r.nodes.drop (i+1)).flatMap (fG kind):=by rw [List.drop_eq_getElem_cons hlt,i_,hx]
   rw [hdr,List.foldl_append] at hans
   rw [hx] at c0 c1 c2 c3 c4 c5 c6 c7 c8 hur hN
   have hul:=hN.units
   have hxu:=hur.1
   have hxm:=(hur.2 [] (by simp)).1
   obtain ⟨ls,hls⟩:=nm_ (if x.kind=3 then [x.name] else x.units)
   have hnm:fG kind x=if x.kind=kind then ls else []:=by unfold fG;rw [hls]
   rw [hnm] at hans
   have hll:ls.length≤65536:=by
    rw [←hls]
    split
    ·simp
    ·exact hul
   obtain ⟨w3,hw3,hb3,_⟩:=alo_ wr (.cells #[.int .i64 x.kind,.slice kA x.kids.length kc,.slice uA x.units.length uc,.string x.name,.slice gA x.args.length gc,.int .i64 x.e.op,.int .i64 x.e.n,.string x.e.name,.slice eA x.e.kids.length ec] 43)
   have hy3:w3.heap[wr.heap.size]? = some (.cells #[.int .i64 x.kind,.slice kA x.kids.length kc,.slice uA x.units.length uc,.string x.name,.slice gA x.args.length gc,.int .i64 x.e.op,.int .i64 x.e.n,.string x.e.name,.slice eA x.e.kids.length ec] 43 (0,0)):=hw3▸I_ _ _
   have HW3:=hk_ (hW.step hb3) (hur.below hb3) hW.row.blk
   have HA:=hl_ hans hls hol hll
   have HEQ:=hid hw3
   obtain ⟨⟨y0,_,y2,y3,_⟩,_⟩:=vK hy3
   obtain ⟨N,hNN⟩:=nm_ wr.heap.size
   have hly:=aC hy3
   rw [hNN] at y0 y2 y3 hly hy3
   have HY3:=hj_ hy3 hNN
   clear hans hls hol hll hW hb3 hy3 hw3 hnm hdr hx hN hur hR
   have hz0:(0:Int)≤i:=by omega
   go_upto_region 8 with fail
   rw [HEQ.out]
   obtain ⟨t,ht⟩:=nm_ (x.kind == 3)
   have HT:=hid ht
   go_upto_if 25 with fail
   go_cut [8] (fun s8 wx=>∃(V:Option Addr) (v:Nat),s8=.slice V ls.length v∧aO aN.str (fun k=>(Value.slice B os.length b).ownBlock=some k) wx V v ls∧Below w3.heap.size w3 wx)
   case first=>
    have hrow:=HW3.out.2.1
    have hbk:=HW3.out.2.2
    cases t
    ·have hls:x.units=ls:=by rw [←HA.out.2.1,K_ (by have:=HT.out;simpa using this)]
     have HU:=hj_ hls (hrow.more (Q:=fun k=>(Value.slice B os.length b).ownBlock=some k) (fun k hk=>.inl (hbk k hk).1))
     clear hrow hbk hls
     go_wp2_with fail
     go_meet
     obtain ⟨h1,h2⟩:=HU.out
     subst h1
     exact ⟨uA,uc,rfl,h2,J_ _ _⟩
    ·have hls:[x.name]=ls:=by rw [←HA.out.2.1,M_ (by have:=HT.out;simpa using this)]
     have HU:=hid (⟨hls,fun k hk=>Nat.lt_trans (hbk k hk).2 (by have:=hNN;omega)⟩:[x.name]=ls∧∀k,(Value.slice B os.length b).ownBlock=some k→k<w3.heap.size)
     clear hrow hbk hls
     go_wp2_with fail
     go_meet
     obtain ⟨h1,h2⟩:=HU.out
     subst h1
     exact ⟨some ⟨w3.heap.size,0,none⟩,1,rfl,Ww (fun hc=>by have:=h2 _ hc;omega) (I_ _ _),(J_ _ _).alloc le_ _⟩
   case rest=>
    obtain ⟨V,v,rfl,hrow,hb4⟩:=hcut
    have hW4:=HW3.out.1.step hb4
    have hvm:=(hrow.2 [] (by simp)).1
    have hvc:=hrow.1
    obtain ⟨OS,hOS⟩:=nm_ ((if x.kind=kind then ls else []).foldl kG os)
    have hA:=HA.out.1
    rw [hOS] at hA
    have HB:=hid (⟨hW4,hrow,hOS,hA,fun k hk=>by rw [←HY3.out.2];exact Nat.ne_of_lt (HW3.out.2.2 k hk).2,(hb4.block _ hly).trans HY3.out.1⟩:_∧_∧_∧_∧(∀k,(Value.slice B os.length b).ownBlock=some k→k≠N)∧_)
    have hol:=HA.out.2.2.1
    have hll:=HA.out.2.2.2
    clear hW4 hrow hOS hA hb4 hly y0 y2 y3 ht HT
    go_wp2_with fail
    go_loopg [5,31] (ls.length+1) (fun q s5 s31 wz=>∃(j:Nat) (B':Option Addr) (b':Nat) (os':List ByteArray),s5=.slice B' os'.length b'∧s31=.int .i64 (j:Nat)∧j≤ls.length∧ls.length - j<q∧(if x.kind=kind then ls.drop j else []).foldl kG os'=OS∧os'.length≤i*65536+j∧De w wz B' b' os'∧aO aN.str (fun k=>(Value.slice B' os'.length b').ownBlock=some k) wz V v ls∧(∀k,(Value.slice B' os'.length b').ownBlock=some k→k≠N) ∧
     wz.heap[N]? = some (.cells #[.int .i64 x.kind,.slice kA x.kids.length kc,.slice uA x.units.length uc,.string x.name,.slice gA x.args.length gc,.int .i64 x.e.op,.int .i64 x.e.n,.string x.e.name,.slice eA x.e.kids.length ec] 43 (0,0)))
    case atStart=>exact ⟨0,B,b,os,rfl,rfl,h_ _,by omega,HB.out.2.2.1,d_ hol (Nat.le_add_right _ _),HB.out.1,HB.out.2.1,HB.out.2.2.2.2.1,HB.out.2.2.2.2.2⟩
    case round=>
     obtain ⟨j,B',b',os',rfl,rfl,hjl,hjq,hos,hol',hW',hrow',hne',hbox⟩:=hrel
     obtain ⟨gj,rfl⟩:=pk_ gk 1 (by omega)
     have hz0:(0:Int)≤j:=by omega
     by_cases hjlt:j<ls.length
     ·obtain ⟨vd,rfl,c0,hvl⟩:=iD hrow' j hjlt
      obtain ⟨⟨y0,_,_,_,_⟩,_⟩:=vK hbox
      have hly:=aC hbox
      obtain ⟨u,hu⟩:=nm_ (ls[j])
      have hdr:ls.drop j=u::ls.drop (j+1):=by rw [List.drop_eq_getElem_cons hjlt,hu]
      rw [hu] at c0
      rw [hdr] at hos
      have HR:=hm_ hos hW' hrow' hne' hbox
      have hjz:(j:Int)<ls.length:=by omega
      clear hos hW' hrow' hne' hbox hdr hu
      by_cases hk:x.kind=kind
      ·have hkb:(x.kind == kind)=true:=D_ hk
       have hos:=HR.out.1
       rw [M_ hk,List.foldl_cons] at hos
       have HC:=hid (rY HR.out.2.1.row.strs b' u)
       unfold kG at hos
       have HK:=hid hk
       clear hk
       cases hin:Dr u os' with
       | true=>
        rw [hin] at HC hos
        rw [M_ rfl] at hos
        have HS:=hid hos
        clear hos hin
        go_wp2_with fail
        refine HC.out.mono ?_
        rintro e w5 ⟨rfl,rfl⟩
        go_wp2_with fail
        go_roundg gj
        case measure=>omega
        case rel=>exact ⟨j+1,B',b',os',rfl,by go_num,by omega,by omega,by rw [M_ HK.out];exact HS.out,by omega,HR.out.2.1,HR.out.2.2.1,HR.out.2.2.2.1,HR.out.2.2.2.2⟩
       | false=>
        rw [hin] at HC hos
        rw [K_ (by decide)] at hos
        have HS:=hid hos
        clear hos hin
        go_wp2_with fail
        refine HC.out.mono ?_
        rintro e w5 ⟨rfl,rfl⟩
        go_wp2_with (at_builtin;refine Hid.out ?_)
        refine hid ?_
        have hq24:=HQ.out.2
        refine cL (by rfl) _ _ _ (by rfl) (.string ⟨#[]⟩) 16 underlying37 gM (by rfl) (by decide) (by rfl) HR.out.2.1.row u #[.string u] _ (by rfl) (by rfl) (by simp [Value.oneCell']) (Av.str _ _ _) (by unfold maxLen;omega) (by omega) HR.out.2.1.below.size ?_
        intro g2 cap w6 hG6 hS6 hg6
        have H6:=hid (HR.out.2.1.next HR.out.2.2.1 HR.out.2.2.2.1 HR.out.2.2.2.2 hG6 hS6 hg6.2.2)
        clear hG6 hS6 hg6 hq24
        go_wp2_with fail
        go_roundg gj
        case measure=>omega
        case rel=>exact ⟨j+1,some ⟨g2,0,none⟩,cap,os'++[u],by rw [O_];rfl,by go_num,by omega,by omega,by rw [M_ HK.out];exact HS.out,by rw [O_,P_,b_];omega,H6.out.1,H6.out.2.1,H6.out.2.2.1,H6.out.2.2.2⟩
      ·have hkb:(x.kind == kind)=false:=aW hk
       have hos:=HR.out.1
       rw [K_ hk] at hos
       have HS:=hj_ hos hk
       clear hos hk
       go_wp2_with fail
       go_roundg gj
       case measure=>omega
       case rel=>exact ⟨j+1,B',b',os',rfl,by go_num,by omega,by omega,by rw [K_ HS.out.2];exact HS.out.1,by omega,HR.out.2.1,HR.out.2.2.1,HR.out.2.2.2.1,HR.out.2.2.2.2⟩
     ·obtain rfl:j=ls.length:=by omega
      have hE:os'=OS:=by rw [List.drop_length,ite_self] at hos;exact hos
      subst hE
      have HE:=hid hW'
      clear hos hW' hrow' hne' hbox
      go_wp2_with fail
      go_roundg gk
      case measure=>omega
      case rel=>exact ⟨i+1,B',b',os',rfl,by go_num,by omega,by omega,HB.out.2.2.2.1,by omega,HE.out⟩
  ·obtain rfl:i=r.nodes.length:=by omega
   rw [List.drop_length] at hans
   have hA:os=ANS:=hans
   subst hA
   have HW:=hid hW
   clear hans hW hol
   go_wp2_with fail
   refine L_ (v:=.slice B os.length b) (by simp [results,results45,go_sem, *]) rfl ?_
   exact ⟨B,b,rfl,HW.out.post,HW.out.below⟩
end Go.Proofs.YtgcfjkfipkfijaaGreatDoor
namespace Go.Proofs.YtgcfjkfipkfijaaGreatDoor
open Go Go.RowKit Go.Lib _root_.Go.Proofs.Tryz
def Ix:ByteArray:=⟨#[114,101,99,105,112,101,32,114,32,112,97,114,97,109,32,113,32,58,61,32,53,32,115,99,97,108,101,100,59,32,123,32,117,110,105,116,32,117,32,123,32,112,104,97,115,101,32,104,101,97,116,40,116,32,61,32,113,32,42,32,50,41,59,32,125,32,105,102,32,113,32,62,32,51,32,123,32,112,97,114,32,123,32,125,32,125,32,125]⟩
def BI (s:List UInt8):Ex:=.mk 1 0 ⟨s.toArray⟩ []
def BJ (n:Int):Ex:=.mk 0 n ⟨#[]⟩ []
def gX:tL:=⟨⟨#[114]⟩,[⟨⟨#[113]⟩,5,true⟩],[⟨0,[1,3],[],⟨#[]⟩,[],eD⟩,⟨2,[2],[⟨#[117]⟩],⟨#[]⟩,[],eD⟩,⟨3,[],[],⟨#[104,101,97,116]⟩,[⟨⟨#[116]⟩,.mk 6 0 ⟨#[]⟩ [BI [113],BJ 2]⟩],eD⟩,
 ⟨4,[4,6],[],⟨#[]⟩,[],.mk 11 0 ⟨#[]⟩ [BI [113],BJ 3]⟩,⟨0,[5],[],⟨#[]⟩,[],eD⟩,⟨1,[],[],⟨#[]⟩,[],eD⟩,⟨0,[],[],⟨#[]⟩,[],eD⟩]⟩
theorem Iy:iF Ix=(gX,0,0):=by kernel_rfl
theorem Ol:(fF gX).2=true:=by kernel_rfl
theorem Om:(fF gX).1.length=109:=by kernel_rfl
theorem Iz:iF (str (fF gX).1)=(gX,0,0):=by kernel_rfl
theorem rJ:nW gX=true:=by
 rw [lP,Iz]
 exact ⟨Ol,rfl,rfl⟩
theorem Fc:gW gX 2=[⟨#[117]⟩]:=by
 unfold gW
 rw [M_ rJ]
 kernel_rfl
theorem vL {o n s} (h1:oT o) (h2:oT n) (h3:s.size≤140737488355328):dU (.mk o n s []):=.mk h1 h2 h3 (fun k hk=>by simp at hk)
theorem Lw {o a b} (h1:oT o) (ha:dU a) (hb:dU b):dU (.mk o 0 ⟨#[]⟩ [a,b]):=.mk h1 (by decide) (by decide) (fun k hk=>by
 simp only [List.mem_cons,List.not_mem_nil,or_false] at hk
 rcases hk with rfl | rfl
 ·exact ha
 ·exact hb)
theorem lS {k ks us nm al e} (h1:nm.size≤65536) (h2:us.length≤65536) (h3:us.all (fun u=>decide (u.size≤65536))=true) (h4:∀a,a∈al→a.name.size≤65536∧dU a.e) (h5:dU e):qI ⟨k,ks,us,nm,al,e⟩:=
 ⟨h1,h2,fun u hu=>of_decide_eq_true (List.all_eq_true.1 h3 u hu),h4,h5⟩
theorem tY:dU eD:=⟨⟨by decide,by decide⟩,⟨by decide,by decide⟩,h_ _,fun k hk=>by simp at hk⟩
theorem Co:rI gX:=by
 refine ⟨by decide,fun p hp=>?_,fun x hx=>?_⟩
 ·simp only [gX,List.mem_cons,List.not_mem_nil,or_false] at hp
  subst hp
  exact ⟨by decide,by decide,by decide⟩
 ·simp only [gX,List.mem_cons,List.not_mem_nil,or_false] at hx
  have h0:∀a:Ar,a∈([]:List Ar)→a.name.size≤65536∧dU a.e:=fun a ha=>by simp at ha
  rcases hx with rfl | rfl | rfl | rfl | rfl | rfl | rfl
  ·exact lS (by decide) (by decide) (by decide) h0 tY
  ·exact lS (by decide) (by decide) (by decide) h0 tY
  ·refine lS (by decide) (by decide) (by decide) (fun a ha=>?_) tY
   simp only [List.mem_cons,List.not_mem_nil,or_false] at ha
   subst ha
   exact ⟨by decide,Lw (by decide) (vL (by decide) (by decide) (by decide)) (vL (by decide) (by decide) (by decide))⟩
  ·exact lS (by decide) (by decide) (by decide) h0 (Lw (by decide) (vL (by decide) (by decide) (by decide)) (vL (by decide) (by decide) (by decide)))
  ·exact lS (by decide) (by decide) (by decide) h0 tY
  ·exact lS (by decide) (by decide) (by decide) h0 tY
  ·exact lS (by decide) (by decide) (by decide) h0 tY
theorem xF {P} (r pA pc nA nc w) (h:kI P w r pA pc nA nc) (hr:rI r) (hT:cF w) :
  Calls prog 19 #[iG r pA pc nA nc] w (eS (gW r 2) w):=by
 have hb1:Below w.heap.size w (w.alloc (.cells #[.string r.name,.slice pA r.params.length pc,.slice nA r.nodes.length nc] 26)):=(J_ _ _).alloc le_ _
 have HN:=hid (Ad r pA pc nA nc 2 _ (h.below hb1) hr (hT.below hb1))
 have HB:=hid hb1
 clear h hr hT hb1
 go_enter func19,ntmps19
 go_wp2_with fail
 refine HN.out.mono ?_
 rintro e w2 ⟨B,b,rfl,h2,hb2⟩
 have H2:=hj_ (h2.more (Q:=fun k=>k<w.heap.size) (fun k hk=>.inl (Y_ hk HB.out.size))) (HB.out.trans (hb2.mono HB.out.size))
 clear h2 hb2
 go_wp2_with fail
 go_ret
 exact ⟨B,b,rfl,H2.out.1,H2.out.2⟩
theorem Ja (w) (hT:cF w):Calls prog 8 #[] w fun r w'=>r=.returned (.bool true)∧Below w.heap.size w w':=by
 have h:=xD Ix w hT (by decide)
 rw [Iy] at h
 have HPAR:Hid (Calls prog 9 #[.string Ix] w fun r w'=>∃pA pc nA nc,r=.returned (.tuple #[.agg #[.string ⟨#[114]⟩,.slice pA 1 pc,.slice nA 7 nc],.int .i64 0,.int .i64 0])∧kI (fun k=>k<w.heap.size) w' gX pA pc nA nc∧Below w.heap.size w w'):=
  hid (h.mono (fun r w' ⟨pA,pc,nA,nc,e,h1,h2,h3⟩=>⟨pA,pc,nA,nc,e,⟨h1,h2⟩,h3⟩))
 have HT:=hid hT
 clear h hT
 go_enter func8,ntmps8
 go_wp2_with fail
 refine HPAR.out.mono ?_
 rintro r w1 ⟨pA,pc,nA,nc,rfl,hR1,hb1⟩
 obtain ⟨ad,rfl⟩:=fN hR1.nds 0 (by decide)
 have H1:=hj_ hR1 hb1
 clear hR1 hb1
 obtain ⟨w2,hw2,hb2,_⟩:=alo_ w1 (.cells #[.string ⟨#[114]⟩,.slice pA 1 pc,.slice (some ad) 7 nc] 26)
 have hx2:w2.heap[w1.heap.size]? = some (.cells #[.string ⟨#[114]⟩,.slice pA 1 pc,.slice (some ad) 7 nc] 26 (0,0)):=hw2▸I_ _ _
 have hR2:=H1.out.1.below hb2
 obtain ⟨kA,kc,uA,uc,gA,gc,eA,ec,⟨c0,c1,_⟩,hkr,_,_,_,hnl⟩:=eG hR2.nds 3 (by decide)
 obtain ⟨kd,rfl,k1,hkl⟩:=dT hkr 1 (by decide)
 have hB2:Below w.heap.size w w2:=H1.out.2.trans (hb2.mono H1.out.2.size)
 have H2:=hl_ hR2 hB2 hx2 (HT.out.below hB2)
 have HW2:=hid hw2
 replace c0:w2.cell? ⟨ad.block,ad.off+27,none⟩=some (.int .i64 4):=c0
 replace c1:w2.cell? ⟨ad.block,ad.off+28,none⟩=some (.slice (some kd) 2 kc):=c1
 replace k1:w2.cell? ⟨kd.block,kd.off+1,none⟩=some (.int .i64 6):=k1
 replace hnl:ad.block<w2.heap.size:=hnl
 have hkc:2≤kc:=hkr.1
 have hnc:7≤nc:=hR2.nds.1
 obtain ⟨⟨x0,x1,x2⟩,_⟩:=bH hx2
 have hlx:=aC hx2
 clear hkr hR2 hb2 hB2 hx2 hw2
 go_upto_region 2 with fail
 rw [HW2.out]
 go_wp2_with fail
 refine (sR gX pA pc (some ad) nc w2 H2.out.1 Co H2.out.2.2.2).mono ?_
 rw [rJ]
 rintro r w3 ⟨rfl,hb3⟩
 have H3:=hl_ (H2.out.1.below hb3) (H2.out.2.1.trans (hb3.mono H2.out.2.1.size)) ((hb3.block _ hlx).trans H2.out.2.2.1) (H2.out.2.2.2.below hb3)
 clear hb3 x0 x1 x2 hlx c0 c1 k1 hnl hkl
 obtain ⟨⟨x0,x1,x2⟩,_⟩:=bH H3.out.2.2.1
 have hlx:=aC H3.out.2.2.1
 go_wp2_with fail
 refine (xF gX pA pc (some ad) nc w3 H3.out.1 Co H3.out.2.2.2).mono ?_
 rw [Fc]
 rintro r w4 ⟨B,b,rfl,_,hb4⟩
 have H4:=hl_ (H3.out.1.below hb4) (H3.out.2.1.trans (hb4.mono H3.out.2.1.size)) ((hb4.block _ hlx).trans H3.out.2.2.1) (H3.out.2.2.2.below hb4)
 clear hb4 x0 x1 x2 hlx
 obtain ⟨⟨x0,x1,x2⟩,_⟩:=bH H4.out.2.2.1
 have hlx:=aC H4.out.2.2.1
 go_wp2_with fail
 refine (xE gX pA pc (some ad) nc w4 H4.out.1 Co H4.out.2.2.2).mono ?_
 rintro r w5 ⟨rfl,hb5⟩
 have hz:(nX gX).size=109:=by
  unfold nX
  rw [M_ rJ,bW,Om]
 have H5:=hid (H4.out.2.1.trans (hb5.mono H4.out.2.1.size))
 clear hb5 x0 x1 x2 hlx
 go_wp2_with fail
 go_ret
 exact ⟨rfl,H5.out⟩
end Go.Proofs.YtgcfjkfipkfijaaGreatDoor
