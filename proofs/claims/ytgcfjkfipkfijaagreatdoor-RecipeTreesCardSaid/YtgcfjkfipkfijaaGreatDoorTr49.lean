/- Part 49 of the proof of rtrees_card; no conditions. -/
import Derived.Test.YtgcfjkfipkfijaaGreatDoorTr01
import Derived.Test.YtgcfjkfipkfijaaGreatDoorTr48
set_option maxRecDepth 100000
set_option maxHeartbeats 16000000
namespace Go.Proofs.YtgcfjkfipkfijaaGreatDoor
open Go Go.RowKit Go.Lib _root_.Go.Proofs.Tryz
def cY (s:ByteArray) (i:Nat):List UInt8:=s.data.toList.drop (bw s.data.toList i)
theorem zD {s} (hv:Vd s.data.toList) {i} (h:i≤(rv s.data.toList).length):Vd (cY s i)∧rv (cY s i)=(rv s.data.toList).drop i:=by
 rw [jI] at h
 exact ⟨(eW i _ hv h).2.2.2,Xx hv h⟩
theorem vP {s} (hv:Vd s.data.toList) {i k} (h:i≤(rv s.data.toList).length):bw s.data.toList (i+k)=bw s.data.toList i+bw (cY s i) k∧cY s (i+k)=(cY s i).drop (bw (cY s i) k):=by
 rw [jI] at h
 have:=uG hv i k h
 refine ⟨this,?_⟩
 unfold cY at this ⊢
 rw [this,List.drop_drop]
theorem pN {s} (hv:Vd s.data.toList) {i k} (h:i≤(rv s.data.toList).length):s.extract (bw s.data.toList i) (bw s.data.toList (i+k))=iP (cY s i) k:=by
 rw [(vP hv h).1]
 unfold iP cY
 apply ByteArray.ext
 apply Array.toList_inj.1
 simp
theorem Km {s} (hv:Vd s.data.toList) {i} (h:i<(rv s.data.toList).length):cY s i≠[]:=by
 intro e
 have:=(zD hv (j_ h)).2
 rw [e,uF] at this
 have:=c_ List.length this
 rw [Q_,b_] at this
 omega
def mC (x:bQ × Nat × Int) (i:Nat):bQ × Int × Int:=if x.2.2=0 then ({ x.1 with at_:=(i:Int) },((i+x.2.1:Nat):Int),0) else (cB,0,x.2.2)
def Da (s:ByteArray) (i:Nat):bQ × Int × Int:=
 let R:=(rv s.data.toList).drop (i+1)
 let k:=fW R
 if ¬(k<R.length∧R.getD k 0≠10) then (cB,0,11)
 else if (R.take k).any (fun r=>decide (r<32)) then (cB,0,11)
 else if 20<k then (cB,0,2)
 else (⟨3,s.extract (bw s.data.toList (i+1)) (bw s.data.toList (i+1+k)),0,i⟩,((i+(k+2):Nat):Int),0)
theorem Yd {s} (hv:Vd s.data.toList) {i} (h:i<(rv s.data.toList).length) (h34:(rv s.data.toList).getD i 0=34):mC (Ur (cY s i)) i=Da s i:=by
 have hn:=Km hv h
 obtain ⟨hv1,hr1⟩:=zD hv (j_ h)
 have hd:(decodeL (cY s i)).1=34:=by
  have e:(rv (cY s i)).getD 0 0=34:=by
   rw [hr1,S_,List.getElem?_drop,Nat.add_zero,←S_];exact h34
  rw [gS hn] at e
  have e2:((decodeL (cY s i)).1:Int)=34:=e
  omega
 obtain ⟨h1,_⟩:=iO hn hv1 (by omega)
 have hb1:bw (cY s i) 1=1:=by rw [gT hn,eM,h1]
 have hs:=vP hv (k:=1) (j_ h)
 rw [hb1] at hs
 have hr2:=(zD hv (i:=i+1) h).2
 rw [hs.2] at hr2
 unfold Ur Da mC
 simp only
 rw [hr2]
 generalize hk:fW ((rv s.data.toList).drop (i+1))=k
 by_cases c1:¬(k<((rv s.data.toList).drop (i+1)).length∧((rv s.data.toList).drop (i+1)).getD k 0≠10)
 ·rw [M_ c1,M_ c1];exact K_ (by decide)
 ·rw [K_ c1,K_ c1]
  by_cases c2:(((rv s.data.toList).drop (i+1)).take k).any (fun r=>decide (r<32))=true
  ·rw [M_ c2,M_ c2];exact K_ (by decide)
  ·rw [K_ c2,K_ c2]
   by_cases c3:20<k
   ·rw [M_ c3,M_ c3];exact K_ (by decide)
   ·rw [K_ c3,K_ c3,pN hv (i:=i+1) (k:=k) h,hs.2]
    exact M_ rfl
theorem Gx (s A a B b i w) (h:qL w s A a B b) (hi:i<(rv s.data.toList).length) :
  Calls prog 91 #[Bl s A a B b,.int .i64 i] w fun r w'=>r=.returned (.tuple #[nO (Da s i).1,.int .i64 (Da s i).2.1,.int .i64 (Da s i).2.2])∧Below w.heap.size w w':=by
 have hn:=h.runes_le
 have hra:=h.ra
 have HT:=hid h
 have HR:=hid h.r
 have hp0:=fun (k:Nat) (W:World) (hW:qL W s A a B b) (h1:i+1≤k) (h2:k≤(rv s.data.toList).length)=>lD s A a B b (i+1) k W hW h1 h2
 rw [show ((i+1:Nat):Int)=(i:Int)+1 by omega] at hp0
 have HP:=hid hp0
 clear hp0
 have HX:Hid (Da s i=if ¬(fW ((rv s.data.toList).drop (i+1))<((rv s.data.toList).drop (i+1)).length∧((rv s.data.toList).drop (i+1)).getD (fW ((rv s.data.toList).drop (i+1))) 0≠10) then (cB,0,11)
  else if (((rv s.data.toList).drop (i+1)).take (fW ((rv s.data.toList).drop (i+1)))).any (fun r=>decide (r<32)) then (cB,0,11)
  else if 20<fW ((rv s.data.toList).drop (i+1)) then (cB,0,2)
  else (⟨3,s.extract (bw s.data.toList (i+1)) (bw s.data.toList (i+1+fW ((rv s.data.toList).drop (i+1)))),0,i⟩,((i+(fW ((rv s.data.toList).drop (i+1))+2):Nat):Int),0)):=hid rfl
 generalize Da s i=QI at HX ⊢
 unfold Bl at HP ⊢
 generalize bw s.data.toList=BW at HX HP
 generalize hRR:rv s.data.toList=R at *
 generalize hL2:(yO s.data.toList).length=L2 at HP ⊢
 clear h
 obtain ⟨KA,hKA⟩:=nm_ (i+1+fW (R.drop (i+1)))
 have HKA:=hid hKA
 have hnz:(R.length:Int)≤8192:=by omega
 have hraz:(R.length:Int)≤a:=by omega
 have hi0:(0:Int)≤i:=by omega
 have hin:(i:Int)≤8192:=by omega
 obtain ⟨w0,hw0,hb0,_⟩:=alo_ w (.cells #[.string s,.slice A R.length a,.slice B L2 b] 99 (0,0))
 have hq0:xO w0 w.heap.size s (.slice A R.length a) (.slice B L2 b):=hw0▸I_ _ _
 obtain ⟨w1,hw1,hb1,hz1⟩:=alo_ w0 (.cells #[.int .i64 0,.string ⟨#[]⟩,.int .i64 0,.int .i64 0] 60 (0,0))
 have hq1:=bp_ hb1 hq0
 obtain ⟨K,hK⟩:=nm_ w.heap.size
 obtain ⟨P,hP⟩:=nm_ w0.heap.size
 have hKP:K<P:=by rw [←hK,←hP];exact aC hq0
 have HKP:=hid hKP
 have HB1:=hid (hb0.trans (hb1.mono hb0.size))
 have HQ1:Hid (xO w1 K s (.slice A R.length a) (.slice B L2 b)):=hid (by rw [←hK];exact hq1)
 have HZ1:Hid (w1.heap[P]? = some (.cells #[.int .i64 0,.string ⟨#[]⟩,.int .i64 0,.int .i64 0] 60 (0,0))):=hid (by rw [←hP];exact hz1)
 have HKW:=hid hK
 have HR1:=hid (HR.out.keep (Same.of_below (M:=[]) HB1.out))
 have HT1:=hid (HT.out.below HB1.out)
 have HW1:=hid hw1
 have HW0:=hid hw0
 obtain ⟨⟨y0,y1,y2⟩,_⟩:=iN HQ1.out
 obtain ⟨⟨z0,z1,z2,z3⟩,g0,g1,g2,g3⟩:=aK HZ1.out
 have hlK:=aC HQ1.out
 have hlP:=aC HZ1.out
 clear hKA hb0 hq0 hb1 hz1 hq1 hKP HR HT
 go_enter func91,ntmps91
 go_wp2_with fail
 clear hw0 hw1 hK hP
 go_loopg [7] (R.length+1) (fun k s7 w'=>∃m:Nat,s7=.int .i64 m∧i+1≤m∧m≤R.length∧R.length - m<k∧m+fW (R.drop m)=KA∧w'=w1)
 case atStart=>exact ⟨i+1,by go_num,H_ _,by omega,by omega,HKA.out,rfl⟩
 case round=>
  obtain ⟨m,rfl,hm1,hm2,hmk,hans,rfl⟩:=hrel
  obtain ⟨gk,rfl⟩:=pk_ gk 1 (by omega)
  have hm0:(0:Int)≤m:=by omega
  have hmi:(i:Int)+1≤m:=by omega
  by_cases hlt:m<R.length
  ·have hltz:(m:Int)<R.length:=by omega
   obtain ⟨ad,rfl⟩:=fE HR1.out (by omega)
   obtain ⟨ad',e0,x0⟩:=iM HR1.out m hlt
   injection e0 with e0
   subst e0
   have hlt2:=N_ wr _ x0
   rw [dX R m hlt] at hans
   obtain ⟨r,hr⟩:=nm_ (R[m])
   rw [hr] at x0 hans
   by_cases h10:r=10
   ·subst h10
    have HE:Hid (QI=(cB,0,11)):=hid (by
     rw [show fW ((10:Int)::R.drop (m+1))=0 from M_ (.inr rfl)] at hans
     have hk:=HKA.out
     rw [HX.out,show fW (R.drop (i+1))=m - (i+1) by omega,M_]
     rintro ⟨_,e⟩
     refine e ?_
     rw [S_,List.getElem?_drop,show i+1+(m - (i+1))=m by omega,R_ hlt,hr]
     rfl)
    have hne:((m:Int) == R.length)=false:=aW (by omega)
    clear hans hr
    go_wp2
    refine L_ (v:=.tuple #[.agg #[.int .i64 0,.string ⟨#[]⟩,.int .i64 0,.int .i64 0],.int .i64 0,.int .i64 11]) (by simp [results,results91,go_sem, *]) rfl ?_
    exact ⟨by rw [HE.out];rfl,aH HB1.out (by rw [HKW.out];exact j_ HKP.out) _ _ _ _⟩
   ·have h10b:(r != 10)=true:=kB h10
    have h10c:(r == 10)=false:=aW h10
    by_cases h34:r=34
    ·subst h34
     obtain ⟨k0,hk0⟩:=nm_ (fW (R.drop (i+1)))
     rw [show fW ((34:Int)::R.drop (m+1))=0 from M_ (.inl rfl)] at hans
     have hka:=HKA.out
     have hmk:m=i+1+k0:=by omega
     obtain ⟨AN,hAN⟩:=nm_ (((R.drop (i+1)).take k0).any (fun r=>decide (r<32)))
     have HX2:Hid (QI=if AN=true then (cB,0,11) else if 20<k0 then (cB,0,2) else (⟨3,s.extract (BW (i+1)) (BW m),0,i⟩,((m:Int)+1),0)):=hid (by
      rw [HX.out,hk0,K_,hAN,←hmk,show ((i+(k0+2):Nat):Int)=(m:Int)+1 by omega]
      ·intro e
       refine e ⟨by rw [Q_];omega,?_⟩
       rw [S_,List.getElem?_drop,←hmk,R_ hlt,hr]
       decide)
     have HAN:Hid (((R.drop (i+1)).take (m - (i+1))).any (fun r=>decide (r<32))=AN):=hid (by rw [←hAN,show m - (i+1)=k0 by omega])
     have hne:((m:Int) == R.length)=false:=aW (by omega)
     have hmr:m≤R.length:=hm2
     have HMK:=hid hmk
     clear hans hr hk0 hka hAN HX hmk
     go_wp2_with fail
     go_loopg [8] (R.length+1) (fun k s8 w'=>∃q:Nat,s8=.int .i64 q∧i+1≤q∧q≤m∧m - q<k∧((R.drop q).take (m - q)).any (fun r=>decide (r<32))=AN∧w'=wr)
     case atStart=>exact ⟨i+1,by go_num,H_ _,by omega,by omega,HAN.out,rfl⟩
     case round=>
      obtain ⟨q,rfl,hq1,hq2,hqk,hans,rfl⟩:=hrel
      obtain ⟨gi,rfl⟩:=pk_ gk 1 (by omega)
      have hq0:(0:Int)≤q:=by omega
      by_cases hqm:q<m
      ·have hqmz:(q:Int)<m:=by omega
       have hqz:(q:Int)<R.length:=by omega
       obtain ⟨ad',e0,v0⟩:=iM HR1.out q (by omega)
       injection e0 with e0
       subst e0
       have hlt3:=N_ wr _ v0
       rw [dX R q (by omega),show m - q=(m - (q+1))+1 by omega,List.take_succ_cons,List.any_cons] at hans
       generalize R[q]'(by omega)=u at v0 hans
       by_cases hu:u<32
       ·have HE:Hid (QI=(cB,0,11)):=hid (by rw [HX2.out,←hans,W_ hu];rfl)
        clear hans
        go_wp2
        refine L_ (v:=.tuple #[.agg #[.int .i64 0,.string ⟨#[]⟩,.int .i64 0,.int .i64 0],.int .i64 0,.int .i64 11]) (by simp [results,results91,go_sem, *]) rfl ?_
        exact ⟨by rw [HE.out];rfl,aH HB1.out (by rw [HKW.out];exact j_ HKP.out) _ _ _ _⟩
       ·have HN:Hid (((R.drop (q+1)).take (m - (q+1))).any (fun r=>decide (r<32))=AN):=hid (by rw [V_ hu] at hans;simpa using hans)
        have hu2:32≤u:=by omega
        clear hans hu
        go_wp2_with fail
        go_roundg gi
        case measure=>omega
        case rel=>exact ⟨q+1,by go_num,by omega,by omega,by omega,HN.out,rfl⟩
      ·obtain rfl:q=m:=by omega
       rw [Nat.sub_self,List.take_zero,List.any_nil] at hans
       subst hans
       have hnl:¬((q:Int)<q):=by omega
       by_cases h20:20<k0
       ·have HE:Hid (QI=(cB,0,2)):=hid (by rw [HX2.out,K_ (by decide),M_ h20])
        have h20z:(20:Int)<(q:Int) - i - 1:=by have:=HMK.out;omega
        clear h20
        go_wp2
        refine L_ (v:=.tuple #[.agg #[.int .i64 0,.string ⟨#[]⟩,.int .i64 0,.int .i64 0],.int .i64 0,.int .i64 2]) (by simp [results,results91,go_sem, *]) rfl ?_
        exact ⟨by rw [HE.out];rfl,aH HB1.out (by rw [HKW.out];exact j_ HKP.out) _ _ _ _⟩
       ·have HE:Hid (QI=(⟨3,s.extract (BW (i+1)) (BW q),0,i⟩,((q:Int)+1),0)):=hid (by rw [HX2.out,K_ (by decide),K_ h20])
        have h20z:(q:Int) - i - 1≤20:=by have:=HMK.out;omega
        have HPC:=hid (HP.out q wr HT1.out hq1 hmr)
        clear h20 HP
        go_wp2_with fail
        refine HPC.out.mono ?_
        rintro e w2 ⟨rfl,hb2⟩
        have HZ2:=hid ((hb2.block _ hlP).trans HZ1.out)
        have HB2:=tm_ HB1 hb2
        clear z0 z1 z2 z3 g0 g1 g2 g3 y0 y1 y2 hlK hlP hb2
        obtain ⟨⟨z0,z1,z2,z3⟩,g0,g1,g2,g3⟩:=aK HZ2.out
        have hlP:=aC HZ2.out
        generalize s.extract (BW (i+1)) (BW q)=tx at HE ⊢
        go_wp2
        refine L_ (v:=.tuple #[.agg #[.int .i64 3,.string tx,.int .i64 0,.int .i64 i],.int .i64 ((q:Int)+1),.int .i64 0]) (by simp [results,results91,go_sem, *]) rfl ?_
        exact ⟨by rw [HE.out],aH HB2.out (by rw [HKW.out];exact j_ HKP.out) _ _ _ _⟩
    ·have h34b:(r != 34)=true:=kB h34
     have HN:Hid ((m+1)+fW (R.drop (m+1))=KA):=hid (by
      rw [show fW (r::R.drop (m+1))=1+fW (R.drop (m+1)) from K_ (by omega)] at hans
      omega)
     clear hans hr h10 h34
     go_wp2_with fail
     go_roundg gk
     case measure=>omega
     case rel=>exact ⟨m+1,by go_num,by omega,by omega,by omega,HN.out,rfl⟩
  ·obtain rfl:m=R.length:=by omega
   have HE:Hid (QI=(cB,0,11)):=hid (by
    rw [List.drop_length] at hans
    have hk:=HKA.out
    have hz:fW []=0:=rfl
    rw [HX.out,M_]
    rintro ⟨e,_⟩
    rw [Q_] at e
    omega)
   have hnl:¬((R.length:Int)<R.length):=by omega
   clear hans
   go_wp2
   refine L_ (v:=.tuple #[.agg #[.int .i64 0,.string ⟨#[]⟩,.int .i64 0,.int .i64 0],.int .i64 0,.int .i64 11]) (by simp [results,results91,go_sem, *]) rfl ?_
   exact ⟨by rw [HE.out];rfl,aH HB1.out (by rw [HKW.out];exact j_ HKP.out) _ _ _ _⟩
end Go.Proofs.YtgcfjkfipkfijaaGreatDoor
