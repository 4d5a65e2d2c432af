/- Part 36 of the proof of rtrees_card; no conditions. -/
import Derived.Test.YtgcfjkfipkfijaaGreatDoorTr01
import Derived.Test.YtgcfjkfipkfijaaGreatDoorTr19
import Derived.Test.YtgcfjkfipkfijaaGreatDoorTr23
set_option maxRecDepth 100000
set_option maxHeartbeats 16000000
namespace Go.Proofs.YtgcfjkfipkfijaaGreatDoor
open Go Go.RowKit Go.Lib _root_.Go.Proofs.Tryz
variable {P Q : Nat → Prop}
open Classical in
theorem Ts (o n:Int) (nm:ByteArray) (ks:List Ex) (o' n':Int) (nm':ByteArray) (ks':List Ex) (A:Option Addr) (c:Nat) (B:Option Addr) (d:Nat) (w:World) (ha:cR P w (.mk o n nm ks) A c) (hb:cR Q w (.mk o' n' nm' ks') B d)
  (ih:∀i (hi:i<ks.length) (hj:i<ks'.length) A' c' B' d' W,cR P W ks[i] A' c'→cR Q W ks'[i] B' d'→Calls prog 64 #[eJ ks[i] A' c',eJ ks'[i] B' d'] W fun r w'=>r=.returned (.bool (decide (ks[i]=ks'[i])))∧Below W.heap.size W w') :
  Calls prog 64 #[.agg #[.int .i64 o,.int .i64 n,.string nm,.slice A ks.length c],.agg #[.int .i64 o',.int .i64 n',.string nm',.slice B ks'.length d]] w fun r w'=>r=.returned (.bool (decide (Ex.mk o n nm ks=.mk o' n' nm' ks')))∧Below w.heap.size w w':=by
 have hra:aO gU P w A c ks:=⟨ha.1,ha.2⟩
 have hrb:aO gU Q w B d ks':=⟨hb.1,hb.2⟩
 have hxm:=(hra.2 [] (by simp)).1
 have hym:=(hrb.2 [] (by simp)).1
 have hxc:=hra.1
 have hyc:=hrb.1
 obtain ⟨R,hR⟩:=nm_ (decide (Ex.mk o n nm ks=.mk o' n' nm' ks'))
 rw [hR]
 obtain ⟨m,hm⟩:=nm_ ks.length
 obtain ⟨m',hm'⟩:=nm_ ks'.length
 have H:=hid (⟨hra,hrb,ih,hm,hm',hR⟩:_∧_∧_∧_∧_∧_)
 rw [hm] at hxm hxc ⊢
 rw [hm'] at hym hyc ⊢
 clear hra hrb ha hb ih hm hm' hR
 obtain ⟨w0,hw0⟩:=nm_ ((w.alloc (.cells #[.int .i64 o,.int .i64 n,.string nm,.slice A m c] 41)).alloc (.cells #[.int .i64 o',.int .i64 n',.string nm',.slice B m' d] 41))
 have hal:Below w.heap.size w w0:=hw0▸((J_ _ _).alloc le_ _).alloc (by simp) _
 have hx:w0.heap[w.heap.size]? = some (.cells #[.int .i64 o,.int .i64 n,.string nm,.slice A m c] 41 (0,0)):=hw0▸(Below.heap_alloc _ _ _ (by simp)).trans (I_ _ _)
 have hy:w0.heap[w.heap.size+1]? = some (.cells #[.int .i64 o',.int .i64 n',.string nm',.slice B m' d] 41 (0,0)):=by
  have h:=I_ (w.alloc (.cells #[.int .i64 o,.int .i64 n,.string nm,.slice A m c] 41)) (.cells #[.int .i64 o',.int .i64 n',.string nm',.slice B m' d] 41)
  rw [hw0] at h
  simpa using h
 have HW0:=hid hw0
 have HX:=hid hx
 have HY:=hid hy
 have HAL:=hid hal
 obtain ⟨x0,x1,x2,x3⟩:=lQ hx
 obtain ⟨y0,y1,y2,y3⟩:=lQ hy
 have hlx:=aC hx
 have hly:=aC hy
 clear hx hy hw0 hal
 by_cases he:o=o'∧n=n'∧nm=nm'∧m=m'
 ·obtain ⟨rfl,rfl,rfl,rfl⟩:=he
  go_enter func64,ntmps64
  go_wp2_with fail
  rw [HW0.out]
  go_loopg [5] (m+1) (fun k s5 w'=>∃j:Nat,s5=.int .i64 j∧j≤m∧m - j<k∧ks.take j=ks'.take j∧Below w0.heap.size w0 w')
  case atStart=>exact ⟨0,rfl,by omega,by omega,by simp,J_ _ _⟩
  case round=>
   obtain ⟨j,rfl,hj,hjk,htk,hbw⟩:=hrel
   obtain ⟨gk,rfl⟩:=pk_ gk 1 (by omega)
   have HBW:=hid hbw
   have HXr:=bl_ hbw HX
   have HYr:=bl_ hbw HY
   clear x0 x1 x2 x3 y0 y1 y2 y3 hlx hly hbw
   obtain ⟨x0,x1,x2,x3⟩:=lQ HXr.out
   obtain ⟨y0,y1,y2,y3⟩:=lQ HYr.out
   have hlx:=aC HXr.out
   have hly:=aC HYr.out
   by_cases hlt:j<m
   ·have hix:j<ks.length:=by rw [H.out.2.2.2.1];exact hlt
    have hiy:j<ks'.length:=by rw [H.out.2.2.2.2.1];exact hlt
    have hS:Below w.heap.size w wr:=HAL.out.trans (HBW.out.mono HAL.out.size)
    obtain ⟨ad,rfl⟩:=fN H.out.1 j hix
    obtain ⟨bd,rfl⟩:=fN H.out.2.1 j hiy
    obtain ⟨A',c',⟨p0,p1,p2,p3⟩,hux,hul⟩:=sP (H.out.1.below hS) j hix
    obtain ⟨B',d',⟨q0,q1,q2,q3⟩,hvx,hvl⟩:=sP (H.out.2.1.below hS) j hiy
    have HCALL:Hid (∀W,Below wr.heap.size wr W→_):=hid (fun W hW=>H.out.2.2.1 j hix hiy A' c' B' d' W (hux.below hW) (hvx.below hW))
    obtain ⟨t,ht⟩:=nm_ (decide (ks[j]=ks'[j]))
    simp only [ht] at HCALL
    have HT:=hid (⟨hix,hiy,ht,htk⟩:∃(h1:j<ks.length) (h2:j<ks'.length),decide (ks[j]=ks'[j])=t∧ks.take j=ks'.take j)
    obtain ⟨x,hxx⟩:=nm_ (ks[j])
    obtain ⟨y,hyy⟩:=nm_ (ks'[j])
    rw [hxx] at p0 p1 p2 p3
    rw [hyy] at q0 q1 q2 q3
    simp only [hxx,hyy] at HCALL
    have hz:(j:Int)<m:=by omega
    have hz0:(0:Int)≤j:=by omega
    have hzc:(j:Int)<c:=by omega
    have hzd:(j:Int)<d:=by omega
    clear hux hvx hxx hyy ht htk hS hix hiy
    go_wp2_with fail
    go_cut [6] (fun s6 wx=>s6=.bool t∧Below wr.heap.size wr wx)
    case first=>
     go_region_with ((go_at_call 64;refine (HCALL.out _ ?_).mono ?_;(first | exact J_ _ _ | exact (J_ _ _).drew);rintro r w5 ⟨rfl,hb5⟩;have HB5:=hid hb5;clear hb5))
     all_goals
      go_wp2_with fail
      go_meet
      exact ⟨rfl,by first | exact HB5.out | exact (J_ _ _).drew.trans HB5.out⟩
    case rest=>
     obtain ⟨rfl,hbx⟩:=hcut
     have HBX:=tm_ HBW hbx
     clear hbx
     cases t
     ·have HF:Hid (R=false):=hid (by
       obtain ⟨h1,h2,h3,_⟩:=HT.out
       rw [←H.out.2.2.2.2.2]
       exact V_ (fun e=>pC h1 h2 (of_decide_eq_false h3) (by injection e)))
      go_wp2_with fail
      go_ret
      exact ⟨by rw [HF.out];rfl,HAL.out.trans (HBX.out.mono HAL.out.size)⟩
     ·go_wp2_with fail
      go_roundg gk
      case measure=>omega
      case rel=>exact ⟨j+1,by go_num,by omega,by omega,by obtain ⟨h1,h2,h3,h4⟩:=HT.out;exact gD h1 h2 h4 (of_decide_eq_true h3),HBX.out⟩
   ·obtain rfl:j=m:=by omega
    have HF:Hid (R=true):=hid (by
     rw [←H.out.2.2.2.2.2,kQ H.out.2.2.2.1 H.out.2.2.2.2.1 htk rfl]
     exact W_ rfl)
    go_wp2_with fail
    go_ret
    exact ⟨by rw [HF.out];rfl,HAL.out.trans (HBW.out.mono HAL.out.size)⟩
 ·have HQ:Hid (R=false):=hid (by
   rw [←H.out.2.2.2.2.2]
   exact V_ (fun e=>he (by injection e with e1 e2 e3 e4;exact ⟨e1,e2,e3,by rw [←H.out.2.2.2.1,←H.out.2.2.2.2.1,e4]⟩)))
  have key:(o == o')=false∨o=o'∧((n == n')=false∨n=n'∧((nm.data.toList == nm'.data.toList)=false∧(nm.toList == nm'.toList)=false∨nm=nm'∧((m:Int) == m')=false)):=by
   by_cases e1:o=o'
   ·refine .inr ⟨e1,?_⟩
    by_cases e2:n=n'
    ·refine .inr ⟨e2,?_⟩
     by_cases e3:nm=nm'
     ·exact .inr ⟨e3,aW (fun e4=>he ⟨e1,e2,e3,by omega⟩)⟩
     ·exact .inl (jB e3)
    ·exact .inl (aW e2)
   ·exact .inl (aW e1)
  rcases key with t1 | ⟨rfl,t1 | ⟨rfl,⟨t1,t3⟩ | ⟨rfl,t1⟩⟩⟩
  all_goals
   have t2:=kH t1
   clear he
   go_enter func64,ntmps64
   go_wp2_with fail
   rw [HW0.out]
   go_ret
   exact ⟨by rw [HQ.out];rfl,HAL.out⟩
open Classical in
theorem Tt (N:Nat):∀{P Q:Nat→Prop} (e f:Ex) (A:Option Addr) (c:Nat) (B:Option Addr) (d:Nat) (w:World),SizeOf.sizeOf e<N→cR P w e A c→cR Q w f B d →
  Calls prog 64 #[eJ e A c,eJ f B d] w fun r w'=>r=.returned (.bool (decide (e=f)))∧Below w.heap.size w w':=by
 induction N with
 | zero=>intro P Q e f A c B d w h;omega
 | succ N ih=>
  intro P Q e f A c B d w hN ha hb
  obtain ⟨o,n,nm,ks⟩:=e
  obtain ⟨o',n',nm',ks'⟩:=f
  refine Ts o n nm ks o' n' nm' ks' A c B d w ha hb (fun i hi hj A' c' B' d' W h1 h2=>ih _ _ A' c' B' d' W ?_ h1 h2)
  have h1:SizeOf.sizeOf ks[i]<SizeOf.sizeOf ks:=List.sizeOf_lt_of_mem (g_ hi)
  simp at hN
  omega
open Classical in
theorem Md (e f:Ex) (A:Option Addr) (c:Nat) (B:Option Addr) (d:Nat) (w:World) (ha:cR P w e A c) (hb:cR Q w f B d) :
  Calls prog 64 #[eJ e A c,eJ f B d] w fun r w'=>r=.returned (.bool (decide (e=f)))∧Below w.heap.size w w':=Tt _ e f A c B d w (o_ _) ha hb
open Classical in
theorem xX {w:World} {A B:Option Addr} {a b:Nat} {xs ys:List ByteArray} (hx:aO aN.str P w A a xs) (hy:aO aN.str Q w B b ys) :
  Calls prog 16 #[.slice A xs.length a,.slice B ys.length b] w fun r w'=>r=.returned (.bool (decide (xs=ys)))∧Below w.heap.size w w':=by
 obtain ⟨R,hR⟩:=nm_ (decide (xs=ys))
 rw [hR]
 have hxm:=(hx.2 [] (by simp)).1
 have hym:=(hy.2 [] (by simp)).1
 have hxc:=hx.1
 have hyc:=hy.1
 obtain ⟨n,hn⟩:=nm_ xs.length
 obtain ⟨m,hm⟩:=nm_ ys.length
 have H:=hm_ hx hy hn hm hR
 rw [hn] at hxm hxc ⊢
 rw [hm] at hym hyc ⊢
 clear hx hy hn hm hR
 by_cases hnm:n=m
 ·subst hnm
  go_enter func16,ntmps16
  go_wp2_with fail
  go_loopg [5] (n+1) (fun q s5 wr=>∃i:Nat,s5=.int .i64 (i:Nat)∧i≤n∧n - i<q∧xs.take i=ys.take i∧Below w.heap.size w wr)
  case atStart=>exact ⟨0,rfl,h_ _,by omega,by simp,J_ _ _⟩
  case round=>
   obtain ⟨i,rfl,hin,hiq,htk,hb⟩:=hrel
   obtain ⟨gk,rfl⟩:=pk_ gk 1 (by omega)
   by_cases hlt:i<n
   ·have hix:i<xs.length:=by rw [H.out.2.2.1];exact hlt
    have hiy:i<ys.length:=by rw [H.out.2.2.2.1];exact hlt
    obtain ⟨ad,rfl,c0,hl1⟩:=iD (H.out.1.below hb) i hix
    obtain ⟨bd,rfl,d0,hl2⟩:=iD (H.out.2.1.below hb) i hiy
    have HS:=hid (⟨hix,hiy,htk,hb⟩:∃(h1:i<xs.length) (h2:i<ys.length),xs.take i=ys.take i∧Below w.heap.size w wr)
    have HX:=hid (fun (h1:i<xs.length) (h2:i<ys.length) (e:xs[i]=ys[i])=>e)
    have HN:=hid (fun (e:xs[i]≠ys[i])=>pC hix hiy e)
    obtain ⟨x,hxx⟩:=nm_ (xs[i])
    obtain ⟨y,hyy⟩:=nm_ (ys[i])
    have HE:=hid (⟨hix,hiy,hxx,hyy⟩:∃(h1:i<xs.length) (h2:i<ys.length),xs[i]=x∧ys[i]=y)
    rw [hxx] at c0
    rw [hyy] at d0
    have hz:(i:Int)<n:=by omega
    have hz0:(0:Int)≤i:=by omega
    clear htk hb hxx hyy HX HN
    by_cases hxy:x=y
    ·subst hxy
     clear hix hiy
     go_wp2_with fail
     go_region
     all_goals
      go_wp2_with fail
      go_roundg gk
      case measure=>omega
      case rel=>
       obtain ⟨h1,h2,h4,h5⟩:=HS.out
       obtain ⟨_,_,e1,e2⟩:=HE.out
       exact ⟨i+1,by go_num,by omega,by omega,gD h1 h2 h4 (e1.trans e2.symm),h5.drew⟩
    ·obtain ⟨t1,t3⟩:=jB hxy
     have t2:=kH t1
     have t4:=kH t3
     have HF:Hid (R=false):=hid (by
      obtain ⟨h1,h2,e1,e2⟩:=HE.out
      rw [←H.out.2.2.2.2]
      exact V_ (pC h1 h2 (fun e=>hxy (by rw [←e1,←e2,e]))))
     clear hix hiy hxy
     go_wp2_with fail
     go_region
     all_goals
      go_wp2_with fail
      refine L_ (v:=.bool false) (by simp [results,results16,go_sem, *]) rfl ?_
      obtain ⟨h1,h2,h4,h5⟩:=HS.out
      exact ⟨by rw [HF.out],h5.drew⟩
   ·obtain rfl:i=n:=by omega
    have HF:Hid (R=true):=hid (by
     rw [←H.out.2.2.2.2]
     exact W_ (kQ H.out.2.2.1 H.out.2.2.2.1 htk rfl))
    have HB:=hid hb
    clear hb htk
    go_wp2_with fail
    refine L_ (v:=.bool true) (by simp [results,results16,go_sem, *]) rfl ?_
    exact ⟨by rw [HF.out],HB.out⟩
 ·have t1:((n:Int) == m)=false:=aW (by omega)
  have t2:=kH t1
  have HF:Hid (R=false):=hid (by
   rw [←H.out.2.2.2.2]
   refine V_ (fun e=>hnm ?_)
   rw [←H.out.2.2.1,←H.out.2.2.2.1,e])
  clear hnm
  go_enter func16,ntmps16
  go_wp2_with fail
  refine L_ (v:=.bool false) (by simp [results,results16,go_sem, *]) rfl ?_
  exact ⟨by rw [HF.out],J_ _ _⟩
open Classical in
theorem Pj (x y:Nd) (kA:Option Addr) (kc:Nat) (uA:Option Addr) (uc:Nat) (gA:Option Addr) (gc:Nat) (eA:Option Addr) (ec:Nat) (kA':Option Addr) (kc':Nat) (uA':Option Addr) (uc':Nat) (gA':Option Addr) (gc':Nat) (eA':Option Addr) (ec':Nat) (w:World)
  (ha:Qp P w x kA kc uA uc gA gc eA ec) (hb:Qp Q w y kA' kc' uA' uc' gA' gc' eA' ec') :
  Calls prog 39 #[AA x kA kc uA uc gA gc eA ec,AA y kA' kc' uA' uc' gA' gc' eA' ec'] w fun r w'=>r=.returned (.bool (decide (x=y)))∧Below w.heap.size w w':=by
 obtain ⟨k,ki,us,nm,al,e⟩:=x
 obtain ⟨k',ki',us',nm',al',e'⟩:=y
 obtain ⟨R,hR⟩:=nm_ (decide ((⟨k,ki,us,nm,al,e⟩:Nd)=⟨k',ki',us',nm',al',e'⟩))
 rw [hR]
 have hR0:R=true↔k=k'∧ki=ki'∧us=us'∧nm=nm'∧al=al'∧e=e':=by
  rw [←hR,decide_eq_true_iff]
  simp only [Nd.mk.injEq]
 have hkm:=(ha.kids.2 [] (by simp)).1
 have hkm':=(hb.kids.2 [] (by simp)).1
 have hgm:=(ha.args.2 [] (by simp)).1
 have hgm':=(hb.args.2 [] (by simp)).1
 have hkc:=ha.kids.1
 have hkc':=hb.kids.1
 have hgc:=ha.args.1
 have hgc':=hb.args.1
 simp only at hkm hkm' hgm hgm' hkc hkc' hgc hgc'
 obtain ⟨m,hm⟩:=nm_ ki.length
 obtain ⟨m',hm'⟩:=nm_ ki'.length
 obtain ⟨n,hn⟩:=nm_ al.length
 obtain ⟨n',hn'⟩:=nm_ al'.length
 show Calls prog 39 #[.agg #[.int .i64 k,.slice kA ki.length kc,.slice uA us.length uc,.string nm,.slice gA al.length gc,.int .i64 e.op,.int .i64 e.n,.string e.name,.slice eA e.kids.length ec],.agg #[.int .i64 k',.slice kA' ki'.length kc',.slice uA' us'.length uc',.string nm',.slice gA' al'.length gc',.int .i64 e'.op,.int .i64 e'.n,.string e'.name,.slice eA' e'.kids.length ec']] w _
 obtain ⟨w0,hw0,hal,hx,hy⟩:=kP (w:=w) (cs:=#[.int .i64 k,.slice kA ki.length kc,.slice uA us.length uc,.string nm,.slice gA al.length gc,.int .i64 e.op,.int .i64 e.n,.string e.name,.slice eA e.kids.length ec])
  (ds:=#[.int .i64 k',.slice kA' ki'.length kc',.slice uA' us'.length uc',.string nm',.slice gA' al'.length gc',.int .i64 e'.op,.int .i64 e'.n,.string e'.name,.slice eA' e'.kids.length ec']) (t:=43) (u:=43)
 have H:Hid (aO (aN.int .i64) P w kA kc ki∧aO (aN.int .i64) Q w kA' kc' ki'∧aO oH P w gA gc al∧aO oH Q w gA' gc' al'∧ki.length=m∧ki'.length=m'∧al.length=n∧al'.length=n'):=hid ⟨ha.kids,hb.kids,ha.args,hb.args,hm,hm',hn,hn'⟩
 have HT:Hid (∀W,Below w.heap.size w W→Calls prog 16 #[.slice uA us.length uc,.slice uA' us'.length uc'] W fun r w'=>r=.returned (.bool (decide (us=us')))∧Below W.heap.size W w'):=hid (fun W hW=>xX (ha.units.below hW) (hb.units.below hW))
 have HE:Hid (∀W,Below w.heap.size w W→Calls prog 64 #[eJ e eA ec,eJ e' eA' ec'] W fun r w'=>r=.returned (.bool (decide (e=e')))∧Below W.heap.size W w'):=hid (fun W hW=>Md e e' eA ec eA' ec' W (ha.ex.below hW) (hb.ex.below hW))
 have HX:=hid hx
 have HY:=hid hy
 have HW0:=hid hw0
 have HAL:=hid hal
 have HR:=hid hR0
 simp only [hm,hm',hn,hn'] at hkm hkm' hgm hgm' hkc hkc' hgc hgc' hx hy HX HY HW0 ⊢
 obtain ⟨⟨x0,x1,x2,x3,x4⟩,x5,x6,x7,x8⟩:=vK hx
 obtain ⟨⟨y0,y1,y2,y3,y4⟩,y5,y6,y7,y8⟩:=vK hy
 have hlx:=aC hx
 have hly:=aC hy
 clear ha hb hx hy hw0 hal hR hR0 hm hm' hn hn'
 by_cases he:k=k'∧nm=nm'∧m=m'∧n=n'
 ·obtain ⟨rfl,rfl,rfl,rfl⟩:=he
  go_enter func39,ntmps39
  go_wp2_with fail
  rw [HW0.out]
  go_loopg [5] (m+1) (fun q s5 w'=>∃j:Nat,s5=.int .i64 j∧j≤m∧m - j<q∧ki.take j=ki'.take j∧Below w0.heap.size w0 w')
  case atStart=>exact ⟨0,rfl,by omega,by omega,by simp,J_ _ _⟩
  case round=>
   obtain ⟨j,rfl,hj,hjk,htk,hbw⟩:=hrel
   obtain ⟨gk,rfl⟩:=pk_ gk 1 (by omega)
   clear x0 x1 x2 x3 x4 x5 x6 x7 x8 y0 y1 y2 y3 y4 y5 y6 y7 y8 hlx hly
   have hxr:=bp_ hbw HX.out
   have hyr:=bp_ hbw HY.out
   obtain ⟨⟨x0,x1,x2,x3,x4⟩,x5,x6,x7,x8⟩:=vK hxr
   obtain ⟨⟨y0,y1,y2,y3,y4⟩,y5,y6,y7,y8⟩:=vK hyr
   have hlx:=aC hxr
   have hly:=aC hyr
   have hS:Below w.heap.size w wr:=HAL.out.trans (hbw.mono HAL.out.size)
   by_cases hlt:j<m
   ·have hix:j<ki.length:=by rw [H.out.2.2.2.2.1];exact hlt
    have hiy:j<ki'.length:=by rw [H.out.2.2.2.2.2.1];exact hlt
    obtain ⟨ad,rfl,c0,hcl⟩:=dT (H.out.1.below hS) j hix
    obtain ⟨bd,rfl,d0,hdl⟩:=dT (H.out.2.1.below hS) j hiy
    obtain ⟨a,haa⟩:=nm_ (ki[j])
    obtain ⟨b,hbb⟩:=nm_ (ki'[j])
    have HS:=hid (⟨hix,hiy,haa,hbb,htk,hbw,hS⟩:∃(h1:j<ki.length) (h2:j<ki'.length),ki[j]=a∧ki'[j]=b∧ki.take j=ki'.take j∧Below w0.heap.size w0 wr∧Below w.heap.size w wr)
    rw [haa] at c0
    rw [hbb] at d0
    have hz:(j:Int)<m:=by omega
    have hz0:(0:Int)≤j:=by omega
    clear htk hbw hxr hyr haa hbb hS hix hiy
    by_cases hab:a=b
    ·subst hab
     go_wp2_with fail
     go_region
     all_goals
      go_wp2_with fail
      go_roundg gk
      case measure=>omega
      case rel=>
       obtain ⟨h1,h2,e1,e2,h4,h5,_⟩:=HS.out
       exact ⟨j+1,by go_num,by omega,by omega,gD h1 h2 h4 (e1.trans e2.symm),h5.drew⟩
    ·have t1:=aW hab
     have t2:=kH t1
     have HF:Hid (R=false):=hid (by
      obtain ⟨h1,h2,e1,e2,_⟩:=HS.out
      refine E_ (fun hc=>?_)
      have:=(HR.out.1 hc).2.1
      exact pC h1 h2 (fun e=>hab (by rw [←e1,←e2,e])) this)
     clear hab
     go_wp2_with fail
     go_region
     all_goals
      go_wp2_with fail
      go_ret
      obtain ⟨_,_,_,_,_,_,h6⟩:=HS.out
      exact ⟨by rw [HF.out];rfl,h6.drew⟩
   ·obtain rfl:j=m:=by omega
    have HK:=hid (kQ H.out.2.2.2.2.1 H.out.2.2.2.2.2.1 htk rfl)
    have HB:=hid hbw
    clear htk hbw hxr hyr hS
    go_wp2_with fail
    clear x0 x1 x2 x3 x4 x5 x6 x7 x8 y0 y1 y2 y3 y4 y5 y6 y7 y8 hlx hly
    go_loopg [6] (n+1) (fun q s6 w'=>∃i:Nat,s6=.int .i64 i∧i≤n∧n - i<q∧al.take i=al'.take i∧Below w0.heap.size w0 w')
    case atStart=>exact ⟨0,rfl,by omega,by omega,by simp,HB.out⟩
    case round=>
     obtain ⟨i,rfl,hi,hik,htk,hbw⟩:=hrel
     obtain ⟨gi,rfl⟩:=pk_ gk 1 (by omega)
     have hxr:=bp_ hbw HX.out
     have hyr:=bp_ hbw HY.out
     obtain ⟨⟨x0,x1,x2,x3,x4⟩,x5,x6,x7,x8⟩:=vK hxr
     obtain ⟨⟨y0,y1,y2,y3,y4⟩,y5,y6,y7,y8⟩:=vK hyr
     have hlx:=aC hxr
     have hly:=aC hyr
     have hS:Below w.heap.size w wr:=HAL.out.trans (hbw.mono HAL.out.size)
     by_cases hlt:i<n
     ·have hix:i<al.length:=by rw [H.out.2.2.2.2.2.2.1];exact hlt
      have hiy:i<al'.length:=by rw [H.out.2.2.2.2.2.2.2];exact hlt
      have hR1:=H.out.2.2.1.below hS
      have hR2:=H.out.2.2.2.1.below hS
      obtain ⟨ad,rfl⟩:=fN hR1 i hix
      obtain ⟨bd,rfl⟩:=fN hR2 i hiy
      obtain ⟨uA',uc'',c0,c1,c2,c3,c4,hux,hul⟩:=kO hR1 i hix
      obtain ⟨vA',vc'',d0,d1,d2,d3,d4,hvx,hvl⟩:=kO hR2 i hiy
      obtain ⟨a,haa⟩:=nm_ (al[i])
      obtain ⟨b,hbb⟩:=nm_ (al'[i])
      rw [haa] at c0 c1 c2 c3 c4 hux
      rw [hbb] at d0 d1 d2 d3 d4 hvx
      obtain ⟨an,ae⟩:=a
      obtain ⟨bn,be⟩:=b
      simp only at c0 c1 c2 c3 c4 hux d0 d1 d2 d3 d4 hvx
      have HC:Hid (∀W,Below wr.heap.size wr W→_):=hid (fun W hW=>Md ae be uA' uc'' vA' vc'' W (hux.below hW) (hvx.below hW))
      obtain ⟨t,ht⟩:=nm_ (decide (ae=be))
      simp only [ht] at HC
      have HS:=hid (⟨hix,hiy,haa,hbb,htk,hbw,hS,ht,hxr,hyr,hR1,hR2⟩:∃(h1:i<al.length) (h2:i<al'.length),al[i]=⟨an,ae⟩∧al'[i]=⟨bn,be⟩∧al.take i=al'.take i∧Below w0.heap.size w0 wr∧Below w.heap.size w wr∧decide (ae=be)=t∧_∧_∧aO oH P wr (some ad) gc al∧aO oH Q wr (some bd) gc' al')
      have hz:(i:Int)<n:=by omega
      have hz0:(0:Int)≤i:=by omega
      clear hux hvx hR1 hR2 htk hbw hxr hyr haa hbb hS ht hix hiy
      go_wp2_with fail
      go_cut [7] (fun s7 wx=>s7=.bool t∧Below wr.heap.size wr wx)
      case first=>
       go_region_with ((go_at_call 64;refine (HC.out _ ?_).mono ?_;(first | exact J_ _ _ | exact (J_ _ _).drew);rintro r w5 ⟨rfl,hb5⟩;have HB5:=hid hb5;clear hb5))
       all_goals
        go_wp2_with fail
        go_meet
        exact ⟨rfl,by first | exact HB5.out | exact (J_ _ _).drew.trans HB5.out⟩
      case rest=>
       obtain ⟨rfl,hbx⟩:=hcut
       clear c0 c1 c2 c3 c4 d0 d1 d2 d3 d4 x0 x1 x2 x3 x4 x5 x6 x7 x8 y0 y1 y2 y3 y4 y5 y6 y7 y8 hul hvl
       have x4:=(hbx.cell (p:=⟨w.heap.size,4,none⟩) hlx).trans (by obtain ⟨_,_,_,_,_,_,_,_,hx,_⟩:=HS.out;exact (vK hx).1.2.2.2.2)
       have y4:=(hbx.cell (p:=⟨w.heap.size+1,4,none⟩) hly).trans (by obtain ⟨_,_,_,_,_,_,_,_,_,hy,_⟩:=HS.out;exact (vK hy).1.2.2.2.2)
       have hlx':=Y_ hlx hbx.size
       have hly':=Y_ hly hbx.size
       have HBX:=hid hbx
       obtain ⟨hi1,hi2,ea,eb,hr1,hr2⟩:∃(h1:i<al.length) (h2:i<al'.length),al[i]=⟨an,ae⟩∧al'[i]=⟨bn,be⟩∧aO oH P wr (some ad) gc al∧aO oH Q wr (some bd) gc' al':=by
        obtain ⟨h1,h2,h3,h4,_,_,_,_,_,_,h5,h6⟩:=HS.out
        exact ⟨h1,h2,h3,h4,h5,h6⟩
       obtain ⟨_,_,c0,_,_,_,_,hq1,hul⟩:=kO (hr1.below hbx) i hi1
       obtain ⟨_,_,d0,_,_,_,_,hq2,hvl⟩:=kO (hr2.below hbx) i hi2
       rw [ea] at c0
       rw [eb] at d0
       simp only at c0 d0
       have fin:Hid (Below w.heap.size w wr∧Below w0.heap.size w0 wr):=hid (by obtain ⟨_,_,_,_,_,h5,h6,_⟩:=HS.out;exact ⟨h6,h5⟩)
       clear ea eb hr1 hr2 hq1 hq2 hbx
       cases t
       ·have HF:Hid (R=false):=hid (by
         obtain ⟨h1,h2,e1,e2,_,_,_,h8,_⟩:=HS.out
         refine E_ (fun hc=>?_)
         refine pC h1 h2 (fun e=>of_decide_eq_false h8 ?_) (HR.out.1 hc).2.2.2.2.1
         rw [e1,e2] at e
         injection e)
        go_wp2_with fail
        go_region
        all_goals
         go_wp2_with fail
         go_ret
         exact ⟨by rw [HF.out];rfl,by first | exact (fin.out.1.trans (HBX.out.mono fin.out.1.size)).drew | exact fin.out.1.trans (HBX.out.mono fin.out.1.size)⟩
       ·by_cases hnn:an=bn
        ·subst hnn
         go_wp2_with fail
         go_region
         all_goals
          go_wp2_with fail
          go_roundg gi
          case measure=>omega
          case rel=>
           obtain ⟨h1,h2,e1,e2,h4,h5,_,h8,_⟩:=HS.out
           refine ⟨i+1,by go_num,by omega,by omega,gD h1 h2 h4 (by rw [e1,e2,of_decide_eq_true h8]),?_⟩
           first | exact (h5.trans (HBX.out.mono h5.size)).drew | exact h5.trans (HBX.out.mono h5.size)
        ·obtain ⟨t1,t3⟩:=jB hnn
         have t2:=kH t1
         have t4:=kH t3
         have HF:Hid (R=false):=hid (by
          obtain ⟨h1,h2,e1,e2,_⟩:=HS.out
          refine E_ (fun hc=>?_)
          refine pC h1 h2 (fun e=>hnn ?_) (HR.out.1 hc).2.2.2.2.1
          rw [e1,e2] at e
          injection e)
         clear hnn
         go_wp2_with fail
         go_region
         all_goals
          go_wp2_with fail
          go_ret
          exact ⟨by rw [HF.out];rfl,by first | exact (fin.out.1.trans (HBX.out.mono fin.out.1.size)).drew | exact fin.out.1.trans (HBX.out.mono fin.out.1.size)⟩
     ·obtain rfl:i=n:=by omega
      have HG:=hid (kQ H.out.2.2.2.2.2.2.1 H.out.2.2.2.2.2.2.2 htk rfl)
      have HB2:=hl_ hbw hS hxr hyr
      clear htk hbw hxr hyr hS
      go_wp2_with fail
      refine (HT.out _ HB2.out.2.1).mono ?_
      rintro r w3 ⟨rfl,hb3⟩
      obtain ⟨q1,hq1⟩:=nm_ (decide (us=us'))
      rw [hq1]
      have HB3:=hl_ (HB2.out.2.1.trans (hb3.mono HB2.out.2.1.size)) ((hb3.block _ hlx).trans HB2.out.2.2.1) ((hb3.block _ hly).trans HB2.out.2.2.2) hq1
      clear hb3 hq1 x0 x1 x2 x3 x4 x5 x6 x7 x8 y0 y1 y2 y3 y4 y5 y6 y7 y8 hlx hly
      obtain ⟨_,x5,x6,x7,x8⟩:=vK HB3.out.2.1
      obtain ⟨_,y5,y6,y7,y8⟩:=vK HB3.out.2.2.1
      have hlx:=aC HB3.out.2.1
      have hly:=aC HB3.out.2.2.1
      go_wp2_with fail
      refine (HE.out _ HB3.out.1).mono ?_
      rintro r w4 ⟨rfl,hb4⟩
      obtain ⟨q2,hq2⟩:=nm_ (decide (e=e'))
      rw [hq2]
      have HB4:=hj_ (HB3.out.1.trans (hb4.mono HB3.out.1.size)) hq2
      have HF:Hid (R=(q1 && q2)):=hid (by
       rw [Bool.eq_iff_iff,HR.out,←HB3.out.2.2.2,←hq2]
       simp only [a_,decide_eq_true_eq]
       exact ⟨fun h=>⟨h.2.2.1,h.2.2.2.2.2⟩,fun h=>⟨trivial,HK.out,h.1,trivial,HG.out,h.2⟩⟩)
      clear hb4 hq2 x5 x6 x7 x8 y5 y6 y7 y8 hlx hly
      cases q1
      ·go_wp2_with fail
       go_ret
       exact ⟨by rw [HF.out];rfl,HB4.out.1⟩
      ·go_wp2_with fail
       go_ret
       exact ⟨by rw [HF.out];rfl,HB4.out.1⟩
 ·have HQ:Hid (R=false):=hid (E_ (fun hc=>he (by
   obtain ⟨h1,h2,_,h4,h5,_⟩:=HR.out.1 hc
   exact ⟨h1,h4,by rw [←H.out.2.2.2.2.1,←H.out.2.2.2.2.2.1,h2],by rw [←H.out.2.2.2.2.2.2.1,←H.out.2.2.2.2.2.2.2,h5]⟩)))
  have key:(k == k')=false∨k=k'∧((nm.data.toList == nm'.data.toList)=false∧(nm.toList == nm'.toList)=false∨nm=nm'∧(((m:Int) == m')=false∨m=m'∧((n:Int) == n')=false)):=by
   by_cases e1:k=k'
   ·refine .inr ⟨e1,?_⟩
    by_cases e2:nm=nm'
    ·refine .inr ⟨e2,?_⟩
     by_cases e3:m=m'
     ·exact .inr ⟨e3,aW (fun e4=>he ⟨e1,e2,e3,by omega⟩)⟩
     ·exact .inl (aW (by omega))
    ·exact .inl (jB e2)
   ·exact .inl (aW e1)
  rcases key with t1 | ⟨rfl,⟨t1,t3⟩ | ⟨rfl,t1 | ⟨rfl,t1⟩⟩⟩
  all_goals
   have t2:=kH t1
   clear he
   go_enter func39,ntmps39
   go_wp2_with fail
   rw [HW0.out]
   go_ret
   exact ⟨by rw [HQ.out];rfl,HAL.out⟩
end Go.Proofs.YtgcfjkfipkfijaaGreatDoor
