/- Part 40 of the proof of rtrees_card; no conditions. -/
import Derived.Test.YtgcfjkfipkfijaaGreatDoorTr01
import Derived.Test.YtgcfjkfipkfijaaGreatDoorTr39
import Derived.Test.YtgcfjkfipkfijaaGreatDoorTr08
import Derived.Test.YtgcfjkfipkfijaaGreatDoorTr14
import Derived.Test.YtgcfjkfipkfijaaGreatDoorTr21
import Derived.Test.YtgcfjkfipkfijaaGreatDoorTr11
import Derived.Test.YtgcfjkfipkfijaaGreatDoorTr02
import Derived.Test.YtgcfjkfipkfijaaGreatDoorTr16
import Derived.Test.YtgcfjkfipkfijaaGreatDoorTr24
import Derived.WalkKit
set_option maxRecDepth 100000
set_option maxHeartbeats 8000000
namespace Go.Proofs.YtgcfjkfipkfijaaGreatDoor
open Go Go.RowKit Go.Lib _root_.Go.Proofs.Tryz
section
variable {l : List bQ} {g c : Nat} {A : Option Addr} {s s' : RS} {w w' : World} {t t' : RT}
theorem lA (T:fZ l) (h:vO l g A c w s t) {a cc had} (hh:mJ w a had) (most) (hm:(had.length:Int)≤most) :
  Calls prog 34 #[.pointer (some ⟨g,0,none⟩),.slice a had.length cc,.int .i64 most] w (Ud g A l.length c (.string (bG l had (cS l had.length most s)).1) (bG l had (cS l had.length most s)).2 t w):=by
 have HN:=hid (gE h)
 have hts:=fU T s
 obtain ⟨R,hR⟩:=nm_ (bG l had (cS l had.length most s))
 rw [hR]
 have h1:=h.inr.1
 have h2:=h.inr.2.1
 have h3:=(h.row.2 [] (by simp)).1
 have hhm:=hh.1
 have hadd:IntKind.i64.wrap (s.at_+1)=s.at_+1:=IntWalk.i64_in _ (by omega)
 obtain ⟨u,hu⟩:=nm_ (eC l s)
 have rA:¬(u.kind=1∧eE u=⟨#[]⟩)→R=(⟨#[]⟩,bB 11 s):=fun hc=>by
  by_cases hb:s.bad=0
  ·have hun:kC l s=false:=by
    unfold eC at hu
    rw [M_ hb] at hu
    unfold kC
    rw [hu]
    refine E_ (fun hd=>hc ?_)
    rw [a_,beq_iff_eq,beq_iff_eq] at hd
    exact ⟨hd.1,Ro hd.2⟩
   have hmo:cS l had.length most s=s:=by unfold cS;rw [K_ (fun hd=>by rw [hun] at hd;exact absurd hd.2 (by decide))]
   rw [←hR,hmo]
   unfold bG
   rw [K_ (by simpa using hb),M_ hun]
  ·have hmo:cS l had.length most s=s:=by
    unfold cS
    split
    ·exact K_ hb
    ·rfl
   rw [←hR,hmo]
   unfold bG
   rw [M_ hb]
   unfold bB
   rw [K_ hb]
 have rB:u.kind=1→eE u=⟨#[]⟩→s.bad=0∧u=aE l s.at_∧kC l s=true:=fun hk hw=>by
  by_cases hb:s.bad=0
  ·unfold eC at hu
   rw [M_ hb] at hu
   refine ⟨hb,hu.symm,?_⟩
   unfold kC
   rw [hu,hk,hw]
   rfl
  ·unfold eC at hu
   rw [K_ hb] at hu
   rw [←hu] at hk
   exact absurd hk (by decide)
 have rC:u.kind=1→eE u=⟨#[]⟩→most≤had.length→R=(⟨#[]⟩,bB 2 s):=fun hk hw hl=>by
  obtain ⟨hb,_,hn⟩:=rB hk hw
  have hmo:cS l had.length most s=bB 2 s:=by unfold cS;rw [M_ ⟨by omega,hn⟩]
  rw [←hR,hmo]
  unfold bG
  rw [M_ (cK (by decide) s)]
 have rD:u.kind=1→eE u=⟨#[]⟩→¬most≤had.length→R=if Dr u.text had=true then (⟨#[]⟩,bB 5 s) else (u.text,fQ s):=fun hk hw hl=>by
  obtain ⟨hb,hu',hn⟩:=rB hk hw
  have hmo:cS l had.length most s=s:=by unfold cS;rw [K_ (fun hd=>by omega)]
  rw [←hR,hmo,hu']
  unfold bG
  rw [K_ (by simpa using hb),K_ (by rw [hn];decide)]
 obtain ⟨k,tx,tn,ta⟩:=u
 rw [hu] at HN hts
 have HK:=hid (fun W=>jV ⟨k,tx,tn,ta⟩ W hts)
 have HP:=hid (fun W (hb:Below w.heap.size w W)=>rN (hh.step hb) cc tx)
 have HFL:=hid (fun W (hb:Below w.heap.size w W) e=>jF (h.step hb) e)
 obtain ⟨kw,hkw⟩:=nm_ (eE ⟨k,tx,tn,ta⟩)
 rw [hkw] at HK rA rB rC rD
 simp only at rA rB rC rD
 have H:=hid h
 have HA:=hid rA
 have HC:=hid rC
 have HD:=hid rD
 clear h hu hkw hts rA rB rC rD hR hh
 have fin:∀(W w9:World) (x:Int) (s9:RS),Below w.heap.size w W→R=(⟨#[]⟩,s9)→Ud g A l.length c (.tuple #[]) s9 t W (.returned (.tuple #[])) w9→Ud g A l.length c (.string R.1) R.2 t w (.returned (.string ⟨#[]⟩)) w9:=fun W w9 _ s9 hb hr hs=>by
  rw [hr]
  exact ⟨rfl,hs.2.1,(Same.of_below hb).then_ hs.2.2⟩
 have FIN:=hid fin
 clear fin
 go_enter func34,ntmps34
 go_wp2_with fail
 refine HN.out.mono ?_
 rintro r w1 ⟨rfl,hb1⟩
 obtain ⟨w2,hw2,hb2,_⟩:=alo_ w1 (.cells #[.int .i64 k,.string tx,.int .i64 tn,.int .i64 ta] 60)
 have hx2:w2.heap[w1.heap.size]? = some (.cells #[.int .i64 k,.string tx,.int .i64 tn,.int .i64 ta] 60 (0,0)):=hw2▸I_ _ _
 obtain ⟨x0,x1,x2,x3⟩:=lQ hx2
 have hlx:=aC hx2
 have H2:=hj_ (hb1.trans (hb2.mono hb1.size)) hx2
 have HW2:=hid hw2
 clear hb1 hb2 hx2 hw2
 go_upto_region 2 with fail
 rw [HW2.out]
 by_cases hk:k=1
 ·subst hk
  go_wp2_with fail
  refine (HK.out w2).mono ?_
  rintro r w3 ⟨rfl,hb3⟩
  have H3:=hj_ (H2.out.1.trans (hb3.mono H2.out.1.size)) ((hb3.block _ hlx).trans H2.out.2)
  clear hb3 x0 x1 x2 x3 hlx
  obtain ⟨x0,x1,_,_⟩:=lQ H3.out.2
  have hlx:=aC H3.out.2
  by_cases hke:kw=⟨#[]⟩
  ·subst hke
   by_cases hmo:most≤had.length
   ·have HR:=hid (HC.out (by trivial) (by trivial) hmo)
    go_wp2_with fail
    refine (HFL.out w3 H3.out.1 2).mono ?_
    rintro r w4 ⟨rfl,h4⟩
    have H4:=hid h4
    clear h4
    go_wp2_with fail
    go_ret
    exact FIN.out w3 _ 0 _ H3.out.1 HR.out ⟨rfl,H4.out⟩
   ·have HRR:=hid (HD.out (by trivial) (by trivial) (by omega))
    have hmb:decide (most≤(had.length:Int))=false:=V_ hmo
    have hlt:(had.length:Int)<most:=by omega
    clear hmo hm
    go_wp2_with fail
    refine (HP.out w3 H3.out.1).mono ?_
    rintro r w4 ⟨z,rfl,hz,hb4⟩
    have H4:=hj_ (H3.out.1.trans (hb4.mono H3.out.1.size)) ((hb4.block _ hlx).trans H3.out.2)
    clear hb4 x0 x1 hlx
    have hRR:=HRR.out
    by_cases hz0:0≤z
    ·rw [M_ (hz.1 hz0)] at hRR
     have HR:=hid hRR
     clear hz hRR
     go_wp2_with fail
     refine (HFL.out _ H4.out.1 5).mono ?_
     rintro r w5 ⟨rfl,h5⟩
     have H5:=hid h5
     clear h5
     go_wp2_with fail
     go_ret
     exact FIN.out w4 _ 0 _ H4.out.1 HR.out ⟨rfl,H5.out⟩
    ·rw [K_ (fun hc=>hz0 (hz.2 hc))] at hRR
     have HR:=hid hRR
     have HX:=hid (H.out.step H4.out.1)
     obtain ⟨⟨q0,q1,q2,q3,q4,q5⟩,f1,f2,_⟩:=iQ HX.out.rd
     have hg:=HX.out.lt
     obtain ⟨x0,x1,_,_⟩:=lQ H4.out.2
     have hlx:=aC H4.out.2
     have hgne:g≠w1.heap.size:=fun e=>by
      have h6:=HX.out.rd
      rw [e] at h6
      have h7:=h6.symm.trans H4.out.2
      simp at h7
     have x1':(w4.setCell ⟨g,1,none⟩ (.int .i64 (s.at_+1))).cell? ⟨w1.heap.size,1,none⟩=some (.string tx):=((Same.refl [g] w4).setCell (p:=⟨g,1,none⟩) (.inl (by simp)) (.int .i64 (s.at_+1))).cell (by simp;exact fun e=>hgne e.symm) x1
     clear hz hRR hgne
     go_wp2_with fail
     go_ret
     rw [HR.out]
     exact ⟨rfl,HX.out.put 1 _,(Same.of_below H4.out.1).setCell (.inl (by simp)) _⟩
  ·have HR:=hid (HA.out (fun hc=>hke hc.2))
   have e0:kw.toList.isEmpty=false:=by
    rw [Lib.toList_data,List.isEmpty_eq_false_iff]
    exact fun e=>hke (ByteArray.ext (Array.toList_inj.1 e))
   have e1:(!kw.toList.isEmpty)=true:=by rw [e0];rfl
   have e2:(kw.toList=[])=False:=by
    rw [eq_iff_iff,iff_false]
    exact fun e=>by rw [e] at e0;exact absurd e0 (by decide)
   clear hke
   go_wp2_with fail
   refine (HFL.out w3 H3.out.1 11).mono ?_
   rintro r w4 ⟨rfl,h4⟩
   have H4:=hid h4
   clear h4
   go_wp2_with fail
   go_ret
   exact FIN.out w3 _ 0 _ H3.out.1 HR.out ⟨rfl,H4.out⟩
 ·have t1:=aW hk
  have t2:=kH t1
  have HR:=hid (HA.out (fun hc=>hk hc.1))
  clear hk
  go_wp2_with fail
  refine (HFL.out w2 H2.out.1 11).mono ?_
  rintro r w4 ⟨rfl,h4⟩
  have H4:=hid h4
  clear h4
  go_wp2_with fail
  go_ret
  exact FIN.out w2 _ 0 _ H2.out.1 HR.out ⟨rfl,H4.out⟩
end
end Go.Proofs.YtgcfjkfipkfijaaGreatDoor
