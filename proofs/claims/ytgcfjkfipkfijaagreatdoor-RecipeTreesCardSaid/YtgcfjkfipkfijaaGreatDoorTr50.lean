/- Part 50 of the proof of rtrees_card; no conditions. -/
import Derived.Test.YtgcfjkfipkfijaaGreatDoorTr01
import Derived.Test.YtgcfjkfipkfijaaGreatDoorTr49
set_option maxRecDepth 100000
set_option maxHeartbeats 16000000
namespace Go.Proofs.YtgcfjkfipkfijaaGreatDoor
open Go Go.RowKit Go.Lib _root_.Go.Proofs.Tryz
theorem tE {s} (hv:Vd s.data.toList) {i} (h:i<(rv s.data.toList).length):(rv (cY s i)).getD 0 0=(rv s.data.toList)[i]:=by
 rw [(zD hv (j_ h)).2,S_,List.getElem?_drop,Nat.add_zero,R_ h]
 rfl
section
variable {s : ByteArray} (hv : Vd s.data.toList) {i : Nat} (h : i < (rv s.data.toList).length)
include hv h
theorem AS (hc:dJ (rv s.data.toList)[i]=2):mC (fI (cY s i)) i=if 12<cV ((rv s.data.toList).drop i) then (cB,0,2) else (⟨1,s.extract (bw s.data.toList i) (bw s.data.toList (i+cV ((rv s.data.toList).drop i))),0,i⟩,((i+cV ((rv s.data.toList).drop i):Nat):Int),0):=by
 have e:fI (cY s i)=if 12<cV ((rv s.data.toList).drop i) then (cB,0,2) else (⟨1,iP (cY s i) (cV ((rv s.data.toList).drop i)),0,0⟩,cV ((rv s.data.toList).drop i),0):=by
  unfold fI
  simp only
  rw [tE hv h,hc,M_ rfl,(zD hv (j_ h)).2]
 rw [e,pN hv (j_ h)]
 unfold mC
 by_cases h12:12<cV ((rv s.data.toList).drop i)
 ·rw [M_ h12,M_ h12];exact K_ (by decide)
 ·rw [K_ h12,K_ h12];exact M_ rfl
theorem AT (hc:dJ (rv s.data.toList)[i]=3) {p} (hp:s.extract (bw s.data.toList i) (bw s.data.toList (i+cV ((rv s.data.toList).drop i)))=p) :
  mC (fI (cY s i)) i=if (oD p).2 then (⟨2,p,(oD p).1,i⟩,((i+cV ((rv s.data.toList).drop i):Nat):Int),0) else (cB,0,11):=by
 subst hp
 have e:fI (cY s i)=if (oD (iP (cY s i) (cV ((rv s.data.toList).drop i)))).2 then (⟨2,iP (cY s i) (cV ((rv s.data.toList).drop i)),(oD (iP (cY s i) (cV ((rv s.data.toList).drop i)))).1,0⟩,cV ((rv s.data.toList).drop i),0) else (cB,0,11):=by
  unfold fI
  simp only
  rw [tE hv h,hc,K_ (show ¬(3:Int)=2 by decide),M_ rfl,(zD hv (j_ h)).2]
 rw [e,pN hv (j_ h)]
 unfold mC
 by_cases hn:(oD (iP (cY s i) (cV ((rv s.data.toList).drop i)))).2=true
 ·rw [M_ hn,M_ hn];exact M_ rfl
 ·rw [K_ hn,K_ hn];exact K_ (by decide)
theorem AU (hc:dJ (rv s.data.toList)[i]=5):mC (fI (cY s i)) i=Da s i:=by
 have h34:(rv s.data.toList)[i]=34:=by
  unfold dJ at hc
  by_cases e:(rv s.data.toList)[i]=34
  ·exact e
  ·rw [K_ e] at hc
   repeat' split at hc
   all_goals cases hc
 rw [←Yd hv h (by rw [S_,R_ h];exact h34)]
 unfold fI
 simp only
 rw [tE hv h,hc,K_ (show ¬(5:Int)=2 by decide),K_ (show ¬(5:Int)=3 by decide),M_ rfl]
theorem AV (hc:dJ (rv s.data.toList)[i]=4) {m} (hm:m=if i+1<(rv s.data.toList).length∧(rv s.data.toList).getD (i+1) 0=61 then (if uV (s.extract (bw s.data.toList i) (bw s.data.toList (i+2))) then 2 else 1) else 1) :
  mC (fI (cY s i)) i=(⟨4,s.extract (bw s.data.toList i) (bw s.data.toList (i+m)),0,i⟩,((i+m:Nat):Int),0):=by
 have hs:Gt (cY s i)=m:=by
  rw [hm,pN hv (j_ h)]
  unfold Gt
  rw [(zD hv (j_ h)).2,Q_,S_,List.getElem?_drop,←S_]
  by_cases e:i+1<(rv s.data.toList).length∧(rv s.data.toList).getD (i+1) 0=61
  ·rw [M_ e,M_ ⟨by omega,e.2⟩]
  ·rw [K_ e,K_ (fun e2=>e ⟨by omega,e2.2⟩)]
 have e:fI (cY s i)=(⟨4,iP (cY s i) m,0,0⟩,m,0):=by
  unfold fI
  simp only
  rw [tE hv h,hc,K_ (show ¬(4:Int)=2 by decide),K_ (show ¬(4:Int)=3 by decide),K_ (show ¬(4:Int)=5 by decide),M_ rfl,hs]
 rw [e,pN hv (j_ h)]
 exact M_ rfl
theorem AW (hc:dJ (rv s.data.toList)[i]≠2∧dJ (rv s.data.toList)[i]≠3∧dJ (rv s.data.toList)[i]≠5∧dJ (rv s.data.toList)[i]≠4):mC (fI (cY s i)) i=(cB,0,11):=by
 have e:fI (cY s i)=(cB,0,11):=by
  unfold fI
  simp only
  rw [tE hv h,K_ hc.1,K_ hc.2.1,K_ hc.2.2.1,K_ hc.2.2.2]
 rw [e]
 exact K_ (by decide)
end
structure Gy (w0:World) (K P:Nat) (s:ByteArray) (A:Option Addr) (a:Nat) (B:Option Addr) (b L1 L2:Nat) (W:World):Prop where
 txt:qL W s A a B b
 box:xO W K s (.slice A L1 a) (.slice B L2 b)
 out:W.heap[P]? = some (.cells #[.int .i64 0,.string ⟨#[]⟩,.int .i64 0,.int .i64 0] 60 (0,0))
 below:Below w0.heap.size w0 W
theorem Gy.step {w0 W W' K P s A B a b L1 L2} (h:Gy w0 K P s A a B b L1 L2 W) (hb:Below W.heap.size W W'):Gy w0 K P s A a B b L1 L2 W':=
 ⟨h.txt.below hb,(hb.block K (aC h.box)).trans h.box,(hb.block P (aC h.out)).trans h.out,h.below.trans (hb.mono h.below.size)⟩
def pO (t:bQ × Int × Int) (w:World) (r:Ending) (w':World):Prop:=r=.returned (.tuple #[nO t.1,.int .i64 t.2.1,.int .i64 t.2.2])∧Below w.heap.size w w'
theorem Uw (s A a B b i w) (h:qL w s A a B b) (hi:i<(rv s.data.toList).length) (hc:dJ (rv s.data.toList)[i]=2) :
  Calls prog 59 #[Bl s A a B b,.int .i64 i] w (pO (mC (fI (cY s i)) i) w):=by
 have hn:=h.runes_le
 have hra:=h.ra
 have hsz:=h.size
 have HX:=hid (AS h.vd hi hc)
 generalize mC (fI (cY s i)) i=T at HX ⊢
 have HT:=hid h
 have hwl:=mA ((rv s.data.toList).drop i)
 rw [Q_] at hwl
 have HWD:=hid (fun W (hW:qL W s A a B b)=>nI s A a B b i W hW (j_ hi))
 have HPT:=hid (fun (k:Nat) (W:World) (hW:qL W s A a B b) (h1:i≤k) (h2:k≤(rv s.data.toList).length)=>lD s A a B b i k W hW h1 h2)
 have hrow:=h.r
 unfold Bl at HWD HPT ⊢
 generalize bw s.data.toList=BW at HX HPT
 generalize hRR:rv s.data.toList=R at *
 generalize hL2:(yO s.data.toList).length=L2 at *
 clear h
 obtain ⟨n,hwn⟩:=nm_ (cV (R.drop i))
 rw [hwn] at hwl HWD HX
 obtain ⟨q,hq⟩:=nm_ (i+n)
 rw [hq] at HWD HX
 have hiq:i≤q:=by omega
 have hqr:q≤R.length:=by omega
 have HNQ:=hid hq
 obtain ⟨ad,rfl⟩:=fE hrow (by omega)
 obtain ⟨ad',e0,x0⟩:=iM hrow i hi
 injection e0 with e0
 subst e0
 obtain ⟨r,hr⟩:=nm_ (R[i])
 rw [hr] at x0 hc
 have HC:Hid (∀W,Calls prog 87 #[.int .i64 r] W fun e w'=>e=.returned (.int .i64 2)∧W=w'):=hid (fun W=>by have:=nH r W;rwa [hc] at this)
 have hnz:(R.length:Int)≤8192:=by omega
 have hraz:(R.length:Int)≤a:=by omega
 have hi0:(0:Int)≤i:=by omega
 have hiz:(i:Int)<R.length:=by omega
 have hqz:(q:Int)≤8192:=by omega
 have hiqz:(i:Int)≤q:=by omega
 have HROW:=hid hrow
 have hltx:=N_ w _ x0
 obtain ⟨w0,hw0,hb0,_⟩:=alo_ w (.cells #[.string s,.slice (some ad) R.length a,.slice B L2 b] 99 (0,0))
 have hq0:xO w0 w.heap.size s (.slice (some ad) R.length a) (.slice B L2 b):=hw0▸I_ _ _
 obtain ⟨w1,hw1,hb1,hz1⟩:=alo_ w0 (.cells #[.int .i64 0,.string ⟨#[]⟩,.int .i64 0,.int .i64 0] 60 (0,0))
 have hq1:=bp_ hb1 hq0
 have hb01:=hb0.trans (hb1.mono hb0.size)
 obtain ⟨K,hK⟩:=nm_ w.heap.size
 obtain ⟨P,hP⟩:=nm_ w0.heap.size
 have hKP:w.heap.size≤P:=by rw [←hP];exact hb0.size
 have HKP:=hid hKP
 have H1:Hid (Gy w K P s (some ad) a B b R.length L2 w1):=hid ⟨HT.out.below hb01,by rw [←hK];exact hq1,by rw [←hP];exact hz1,hb01⟩
 have x1:=(hb01.cell hltx).trans x0
 have HX1:=hid x1
 have HL1:=hid (Y_ hltx hb01.size)
 obtain ⟨⟨y0,y1,y2⟩,_⟩:=iN H1.out.box
 have hlK:=aC H1.out.box
 clear hwn hq hrow x0 hltx hb0 hq0 hb1 hz1 hq1 hb01 hKP x1 HT hr
 go_enter func59,ntmps59
 go_wp2_with fail
 clear hw0 hw1 hK hP
 refine (HWD.out w1 H1.out.txt).mono ?_
 rintro e w2 ⟨rfl,hb2⟩
 have H2:=hid (H1.out.step hb2)
 have x2:=(hb2.cell HL1.out).trans HX1.out
 have hlx:=Y_ HL1.out hb2.size
 have HROW2:=hid ((HROW.out.keep (Same.of_below (M:=[]) H2.out.below)))
 clear y0 y1 y2 hlK hb2
 obtain ⟨⟨y0,y1,y2⟩,_⟩:=iN H2.out.box
 have hlK:=aC H2.out.box
 go_wp2_with fail
 refine (HC.out w2).mono ?_
 rintro e w3 ⟨rfl,rfl⟩
 by_cases h12:12<n
 ·have HE:Hid (T=(cB,0,2)):=hid (by rw [HX.out,M_ h12])
  have h12z:(12:Int)<(q:Int) - i:=by have:=HNQ.out;omega
  clear h12
  obtain ⟨⟨z0,z1,z2,z3⟩,g0,g1,g2,g3⟩:=aK H2.out.out
  have hlP:=aC H2.out.out
  go_wp2
  refine L_ (v:=.tuple #[.agg #[.int .i64 0,.string ⟨#[]⟩,.int .i64 0,.int .i64 0],.int .i64 0,.int .i64 2]) (by simp [results,results59,go_sem, *]) rfl ?_
  exact ⟨by rw [HE.out];first | done | rfl,aH H2.out.below HKP.out _ _ _ _⟩
 ·have HE:Hid (T=(⟨1,s.extract (BW i) (BW q),0,i⟩,(q:Int),0)):=hid (by rw [HX.out,K_ h12])
  have h12z:(q:Int) - i≤12:=by have:=HNQ.out;omega
  clear h12
  go_wp2_with fail
  refine (HPT.out q w2 H2.out.txt (by omega) (by omega)).mono ?_
  rintro e w4 ⟨rfl,hb4⟩
  have H4:=hid (H2.out.step hb4)
  clear y0 y1 y2 hlK hb4
  generalize s.extract (BW i) (BW q)=tx at HE ⊢
  obtain ⟨⟨z0,z1,z2,z3⟩,g0,g1,g2,g3⟩:=aK H4.out.out
  have hlP:=aC H4.out.out
  go_wp2
  refine L_ (v:=.tuple #[.agg #[.int .i64 1,.string tx,.int .i64 0,.int .i64 i],.int .i64 q,.int .i64 0]) (by simp [results,results59,go_sem, *]) rfl ?_
  exact ⟨by rw [HE.out];first | done | rfl,aH H4.out.below HKP.out _ _ _ _⟩
theorem Ux (s A a B b i w) (h:qL w s A a B b) (hi:i<(rv s.data.toList).length) (hc:dJ (rv s.data.toList)[i]=3) :
  Calls prog 59 #[Bl s A a B b,.int .i64 i] w (pO (mC (fI (cY s i)) i) w):=by
 have hn:=h.runes_le
 have hra:=h.ra
 have hsz:=h.size
 have HX:=hid (AT h.vd hi hc rfl)
 generalize mC (fI (cY s i)) i=T at HX ⊢
 have HT:=hid h
 have hwl:=mA ((rv s.data.toList).drop i)
 rw [Q_] at hwl
 have HWD:=hid (fun W (hW:qL W s A a B b)=>nI s A a B b i W hW (j_ hi))
 have HPT:=hid (fun (k:Nat) (W:World) (hW:qL W s A a B b) (h1:i≤k) (h2:k≤(rv s.data.toList).length)=>lD s A a B b i k W hW h1 h2)
 have hrow:=h.r
 unfold Bl at HWD HPT ⊢
 generalize bw s.data.toList=BW at HX HPT
 generalize hRR:rv s.data.toList=R at *
 generalize hL2:(yO s.data.toList).length=L2 at *
 clear h
 obtain ⟨n,hwn⟩:=nm_ (cV (R.drop i))
 rw [hwn] at hwl HWD HX
 obtain ⟨q,hq⟩:=nm_ (i+n)
 rw [hq] at HWD HX
 have hiq:i≤q:=by omega
 have hqr:q≤R.length:=by omega
 have HNQ:=hid hq
 obtain ⟨ad,rfl⟩:=fE hrow (by omega)
 obtain ⟨ad',e0,x0⟩:=iM hrow i hi
 injection e0 with e0
 subst e0
 obtain ⟨r,hr⟩:=nm_ (R[i])
 rw [hr] at x0 hc
 have HC:Hid (∀W,Calls prog 87 #[.int .i64 r] W fun e w'=>e=.returned (.int .i64 3)∧W=w'):=hid (fun W=>by have:=nH r W;rwa [hc] at this)
 have hnz:(R.length:Int)≤8192:=by omega
 have hraz:(R.length:Int)≤a:=by omega
 have hi0:(0:Int)≤i:=by omega
 have hiz:(i:Int)<R.length:=by omega
 have hqz:(q:Int)≤8192:=by omega
 have hiqz:(i:Int)≤q:=by omega
 have HROW:=hid hrow
 have hltx:=N_ w _ x0
 obtain ⟨w0,hw0,hb0,_⟩:=alo_ w (.cells #[.string s,.slice (some ad) R.length a,.slice B L2 b] 99 (0,0))
 have hq0:xO w0 w.heap.size s (.slice (some ad) R.length a) (.slice B L2 b):=hw0▸I_ _ _
 obtain ⟨w1,hw1,hb1,hz1⟩:=alo_ w0 (.cells #[.int .i64 0,.string ⟨#[]⟩,.int .i64 0,.int .i64 0] 60 (0,0))
 have hq1:=bp_ hb1 hq0
 have hb01:=hb0.trans (hb1.mono hb0.size)
 obtain ⟨K,hK⟩:=nm_ w.heap.size
 obtain ⟨P,hP⟩:=nm_ w0.heap.size
 have hKP:w.heap.size≤P:=by rw [←hP];exact hb0.size
 have HKP:=hid hKP
 have H1:Hid (Gy w K P s (some ad) a B b R.length L2 w1):=hid ⟨HT.out.below hb01,by rw [←hK];exact hq1,by rw [←hP];exact hz1,hb01⟩
 have x1:=(hb01.cell hltx).trans x0
 have HX1:=hid x1
 have HL1:=hid (Y_ hltx hb01.size)
 obtain ⟨⟨y0,y1,y2⟩,_⟩:=iN H1.out.box
 have hlK:=aC H1.out.box
 clear hwn hq hrow x0 hltx hb0 hq0 hb1 hz1 hq1 hb01 hKP x1 HT hr
 go_enter func59,ntmps59
 go_wp2_with fail
 clear hw0 hw1 hK hP
 refine (HWD.out w1 H1.out.txt).mono ?_
 rintro e w2 ⟨rfl,hb2⟩
 have H2:=hid (H1.out.step hb2)
 have x2:=(hb2.cell HL1.out).trans HX1.out
 have hlx:=Y_ HL1.out hb2.size
 have HROW2:=hid ((HROW.out.keep (Same.of_below (M:=[]) H2.out.below)))
 clear y0 y1 y2 hlK hb2
 obtain ⟨⟨y0,y1,y2⟩,_⟩:=iN H2.out.box
 have hlK:=aC H2.out.box
 go_wp2_with fail
 refine (HC.out w2).mono ?_
 rintro e w3 ⟨rfl,rfl⟩
 go_wp2_with fail
 refine (HPT.out q w2 H2.out.txt (by omega) (by omega)).mono ?_
 rintro e w4 ⟨rfl,hb4⟩
 have H4:=hid (H2.out.step hb4)
 clear y0 y1 y2 hlK hb4
 obtain ⟨⟨y0,y1,y2⟩,_⟩:=iN H4.out.box
 have hlK:=aC H4.out.box
 have hps:(s.extract (BW i) (BW q)).size≤8192:=by simp;omega
 have HNU:=hid (fun W=>Gw (s.extract (BW i) (BW q)) W hps)
 obtain ⟨tx,htx⟩:=nm_ (s.extract (BW i) (BW q))
 rw [htx] at HX HNU
 obtain ⟨⟨v,ok⟩,hv⟩:∃p,oD tx=p:=⟨_,rfl⟩
 rw [hv] at HX HNU
 clear hv hps
 go_wp2_with fail
 refine (HNU.out w4).mono ?_
 rintro e w5 ⟨rfl,rfl⟩
 cases ok
 ·have HE:Hid (T=(cB,0,11)):=hid (by rw [HX.out];rfl)
  obtain ⟨⟨z0,z1,z2,z3⟩,g0,g1,g2,g3⟩:=aK H4.out.out
  have hlP:=aC H4.out.out
  go_wp2
  refine L_ (v:=.tuple #[.agg #[.int .i64 0,.string ⟨#[]⟩,.int .i64 0,.int .i64 0],.int .i64 0,.int .i64 11]) (by simp [results,results59,go_sem, *]) rfl ?_
  exact ⟨by rw [HE.out];first | done | rfl,aH H4.out.below HKP.out _ _ _ _⟩
 ·have HE:Hid (T=(⟨2,tx,v,i⟩,(q:Int),0)):=hid (by rw [HX.out];rfl)
  go_wp2_with fail
  refine (HPT.out q w4 H4.out.txt (by omega) (by omega)).mono ?_
  rintro e w6 ⟨rfl,hb6⟩
  have H6:=hid (H4.out.step hb6)
  clear y0 y1 y2 hlK hb6
  obtain ⟨⟨z0,z1,z2,z3⟩,g0,g1,g2,g3⟩:=aK H6.out.out
  have hlP:=aC H6.out.out
  go_wp2
  refine L_ (v:=.tuple #[.agg #[.int .i64 2,.string tx,.int .i64 v,.int .i64 i],.int .i64 q,.int .i64 0]) (by simp [results,results59,go_sem, *]) rfl ?_
  exact ⟨by rw [HE.out];first | done | rfl,aH H6.out.below HKP.out _ _ _ _⟩
theorem Uy (s A a B b i w) (h:qL w s A a B b) (hi:i<(rv s.data.toList).length) (hc:dJ (rv s.data.toList)[i]=5) :
  Calls prog 59 #[Bl s A a B b,.int .i64 i] w (pO (mC (fI (cY s i)) i) w):=by
 have hn:=h.runes_le
 have hra:=h.ra
 have hsz:=h.size
 have HX:=hid (AU h.vd hi hc)
 generalize mC (fI (cY s i)) i=T at HX ⊢
 have HT:=hid h
 have hwl:=mA ((rv s.data.toList).drop i)
 rw [Q_] at hwl
 have HWD:=hid (fun W (hW:qL W s A a B b)=>nI s A a B b i W hW (j_ hi))
 have HPT:=hid (fun (k:Nat) (W:World) (hW:qL W s A a B b) (h1:i≤k) (h2:k≤(rv s.data.toList).length)=>lD s A a B b i k W hW h1 h2)
 have HQU:=hid (fun W (hW:qL W s A a B b)=>Gx s A a B b i W hW hi)
 obtain ⟨⟨⟨tk,tx,tn,ta⟩,qn,qe⟩,hQI⟩:∃p,Da s i=p:=⟨_,rfl⟩
 rw [hQI] at HX HQU
 clear hQI
 have hrow:=h.r
 unfold Bl at HWD HPT HQU ⊢
 generalize bw s.data.toList=BW at HX HPT
 generalize hRR:rv s.data.toList=R at *
 generalize hL2:(yO s.data.toList).length=L2 at *
 clear h
 obtain ⟨n,hwn⟩:=nm_ (cV (R.drop i))
 rw [hwn] at hwl HWD
 obtain ⟨q,hq⟩:=nm_ (i+n)
 rw [hq] at HWD
 have hiq:i≤q:=by omega
 have hqr:q≤R.length:=by omega
 have HNQ:=hid hq
 obtain ⟨ad,rfl⟩:=fE hrow (by omega)
 obtain ⟨ad',e0,x0⟩:=iM hrow i hi
 injection e0 with e0
 subst e0
 obtain ⟨r,hr⟩:=nm_ (R[i])
 rw [hr] at x0 hc
 have HC:Hid (∀W,Calls prog 87 #[.int .i64 r] W fun e w'=>e=.returned (.int .i64 5)∧W=w'):=hid (fun W=>by have:=nH r W;rwa [hc] at this)
 have hnz:(R.length:Int)≤8192:=by omega
 have hraz:(R.length:Int)≤a:=by omega
 have hi0:(0:Int)≤i:=by omega
 have hiz:(i:Int)<R.length:=by omega
 have hqz:(q:Int)≤8192:=by omega
 have hiqz:(i:Int)≤q:=by omega
 have HROW:=hid hrow
 have hltx:=N_ w _ x0
 obtain ⟨w0,hw0,hb0,_⟩:=alo_ w (.cells #[.string s,.slice (some ad) R.length a,.slice B L2 b] 99 (0,0))
 have hq0:xO w0 w.heap.size s (.slice (some ad) R.length a) (.slice B L2 b):=hw0▸I_ _ _
 obtain ⟨w1,hw1,hb1,hz1⟩:=alo_ w0 (.cells #[.int .i64 0,.string ⟨#[]⟩,.int .i64 0,.int .i64 0] 60 (0,0))
 have hq1:=bp_ hb1 hq0
 have hb01:=hb0.trans (hb1.mono hb0.size)
 obtain ⟨K,hK⟩:=nm_ w.heap.size
 obtain ⟨P,hP⟩:=nm_ w0.heap.size
 have hKP:w.heap.size≤P:=by rw [←hP];exact hb0.size
 have HKP:=hid hKP
 have H1:Hid (Gy w K P s (some ad) a B b R.length L2 w1):=hid ⟨HT.out.below hb01,by rw [←hK];exact hq1,by rw [←hP];exact hz1,hb01⟩
 have x1:=(hb01.cell hltx).trans x0
 have HX1:=hid x1
 have HL1:=hid (Y_ hltx hb01.size)
 obtain ⟨⟨y0,y1,y2⟩,_⟩:=iN H1.out.box
 have hlK:=aC H1.out.box
 clear hwn hq hrow x0 hltx hb0 hq0 hb1 hz1 hq1 hb01 hKP x1 HT hr
 go_enter func59,ntmps59
 go_wp2_with fail
 clear hw0 hw1 hK hP
 refine (HWD.out w1 H1.out.txt).mono ?_
 rintro e w2 ⟨rfl,hb2⟩
 have H2:=hid (H1.out.step hb2)
 have x2:=(hb2.cell HL1.out).trans HX1.out
 have hlx:=Y_ HL1.out hb2.size
 have HROW2:=hid ((HROW.out.keep (Same.of_below (M:=[]) H2.out.below)))
 clear y0 y1 y2 hlK hb2
 obtain ⟨⟨y0,y1,y2⟩,_⟩:=iN H2.out.box
 have hlK:=aC H2.out.box
 go_wp2_with fail
 refine (HC.out w2).mono ?_
 rintro e w3 ⟨rfl,rfl⟩
 go_wp2_with fail
 refine (HQU.out w2 H2.out.txt).mono ?_
 rintro e w4 ⟨rfl,hb4⟩
 have H4:=hid (H2.out.step hb4)
 clear y0 y1 y2 hlK hb4
 obtain ⟨⟨z0,z1,z2,z3⟩,g0,g1,g2,g3⟩:=aK H4.out.out
 have hlP:=aC H4.out.out
 go_wp2
 refine L_ (v:=.tuple #[.agg #[.int .i64 tk,.string tx,.int .i64 tn,.int .i64 ta],.int .i64 qn,.int .i64 qe]) (by simp [results,results59,go_sem, *]) rfl ?_
 exact ⟨by rw [HX.out];first | done | rfl,aH H4.out.below HKP.out _ _ _ _⟩
theorem Uz (s A a B b i w) (h:qL w s A a B b) (hi:i<(rv s.data.toList).length) (hc:dJ (rv s.data.toList)[i]≠2∧dJ (rv s.data.toList)[i]≠3∧dJ (rv s.data.toList)[i]≠5∧dJ (rv s.data.toList)[i]≠4) :
  Calls prog 59 #[Bl s A a B b,.int .i64 i] w (pO (mC (fI (cY s i)) i) w):=by
 have hn:=h.runes_le
 have hra:=h.ra
 have hsz:=h.size
 have HX:=hid (AW h.vd hi hc)
 generalize mC (fI (cY s i)) i=T at HX ⊢
 have HT:=hid h
 have hwl:=mA ((rv s.data.toList).drop i)
 rw [Q_] at hwl
 have HWD:=hid (fun W (hW:qL W s A a B b)=>nI s A a B b i W hW (j_ hi))
 have HPT:=hid (fun (k:Nat) (W:World) (hW:qL W s A a B b) (h1:i≤k) (h2:k≤(rv s.data.toList).length)=>lD s A a B b i k W hW h1 h2)
 have hrow:=h.r
 unfold Bl at HWD HPT ⊢
 generalize bw s.data.toList=BW at HX HPT
 generalize hRR:rv s.data.toList=R at *
 generalize hL2:(yO s.data.toList).length=L2 at *
 clear h
 obtain ⟨n,hwn⟩:=nm_ (cV (R.drop i))
 rw [hwn] at hwl HWD
 obtain ⟨q,hq⟩:=nm_ (i+n)
 rw [hq] at HWD
 have hiq:i≤q:=by omega
 have hqr:q≤R.length:=by omega
 have HNQ:=hid hq
 obtain ⟨ad,rfl⟩:=fE hrow (by omega)
 obtain ⟨ad',e0,x0⟩:=iM hrow i hi
 injection e0 with e0
 subst e0
 obtain ⟨r,hr⟩:=nm_ (R[i])
 rw [hr] at x0 hc
 obtain ⟨c,hcc⟩:=nm_ (dJ r)
 rw [hcc] at hc
 have HC:Hid (∀W,Calls prog 87 #[.int .i64 r] W fun e w'=>e=.returned (.int .i64 c)∧W=w'):=hid (fun W=>by have:=nH r W;rwa [hcc] at this)
 have hc2:(c == 2)=false:=aW hc.1
 have hc3:(c == 3)=false:=aW hc.2.1
 have hc5:(c == 5)=false:=aW hc.2.2.1
 have hc4:(c == 4)=false:=aW hc.2.2.2
 clear hc hcc
 have hnz:(R.length:Int)≤8192:=by omega
 have hraz:(R.length:Int)≤a:=by omega
 have hi0:(0:Int)≤i:=by omega
 have hiz:(i:Int)<R.length:=by omega
 have hqz:(q:Int)≤8192:=by omega
 have hiqz:(i:Int)≤q:=by omega
 have HROW:=hid hrow
 have hltx:=N_ w _ x0
 obtain ⟨w0,hw0,hb0,_⟩:=alo_ w (.cells #[.string s,.slice (some ad) R.length a,.slice B L2 b] 99 (0,0))
 have hq0:xO w0 w.heap.size s (.slice (some ad) R.length a) (.slice B L2 b):=hw0▸I_ _ _
 obtain ⟨w1,hw1,hb1,hz1⟩:=alo_ w0 (.cells #[.int .i64 0,.string ⟨#[]⟩,.int .i64 0,.int .i64 0] 60 (0,0))
 have hq1:=bp_ hb1 hq0
 have hb01:=hb0.trans (hb1.mono hb0.size)
 obtain ⟨K,hK⟩:=nm_ w.heap.size
 obtain ⟨P,hP⟩:=nm_ w0.heap.size
 have hKP:w.heap.size≤P:=by rw [←hP];exact hb0.size
 have HKP:=hid hKP
 have H1:Hid (Gy w K P s (some ad) a B b R.length L2 w1):=hid ⟨HT.out.below hb01,by rw [←hK];exact hq1,by rw [←hP];exact hz1,hb01⟩
 have x1:=(hb01.cell hltx).trans x0
 have HX1:=hid x1
 have HL1:=hid (Y_ hltx hb01.size)
 obtain ⟨⟨y0,y1,y2⟩,_⟩:=iN H1.out.box
 have hlK:=aC H1.out.box
 clear hwn hq hrow x0 hltx hb0 hq0 hb1 hz1 hq1 hb01 hKP x1 HT hr
 go_enter func59,ntmps59
 go_wp2_with fail
 clear hw0 hw1 hK hP
 refine (HWD.out w1 H1.out.txt).mono ?_
 rintro e w2 ⟨rfl,hb2⟩
 have H2:=hid (H1.out.step hb2)
 have x2:=(hb2.cell HL1.out).trans HX1.out
 have hlx:=Y_ HL1.out hb2.size
 have HROW2:=hid ((HROW.out.keep (Same.of_below (M:=[]) H2.out.below)))
 clear y0 y1 y2 hlK hb2
 obtain ⟨⟨y0,y1,y2⟩,_⟩:=iN H2.out.box
 have hlK:=aC H2.out.box
 go_wp2_with fail
 refine (HC.out w2).mono ?_
 rintro e w3 ⟨rfl,rfl⟩
 obtain ⟨⟨z0,z1,z2,z3⟩,g0,g1,g2,g3⟩:=aK H2.out.out
 have hlP:=aC H2.out.out
 go_wp2
 refine L_ (v:=.tuple #[.agg #[.int .i64 0,.string ⟨#[]⟩,.int .i64 0,.int .i64 0],.int .i64 0,.int .i64 11]) (by simp [results,results59,go_sem, *]) rfl ?_
 exact ⟨by rw [HX.out];first | done | rfl,aH H2.out.below HKP.out _ _ _ _⟩
end Go.Proofs.YtgcfjkfipkfijaaGreatDoor
