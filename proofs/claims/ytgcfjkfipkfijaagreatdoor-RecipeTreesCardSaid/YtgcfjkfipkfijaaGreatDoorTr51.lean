/- Part 51 of the proof of rtrees_card; no conditions. -/
import Derived.Test.YtgcfjkfipkfijaaGreatDoorTr01
import Derived.Test.YtgcfjkfipkfijaaGreatDoorTr50
import Derived.Test.YtgcfjkfipkfijaaGreatDoorTr21
set_option maxRecDepth 100000
set_option maxHeartbeats 16000000
namespace Go.Proofs.YtgcfjkfipkfijaaGreatDoor
open Go Go.RowKit Go.Lib _root_.Go.Proofs.Tryz
theorem Va (s A a B b i w) (h:qL w s A a B b) (hi:i<(rv s.data.toList).length) (hc:dJ (rv s.data.toList)[i]=4) :
  Calls prog 59 #[Bl s A a B b,.int .i64 i] w (pO (mC (fI (cY s i)) i) w):=by
 have hn:=h.runes_le
 have hra:=h.ra
 have hsz:=h.size
 obtain ⟨m,hm⟩:∃m,m=if i+1<(rv s.data.toList).length∧(rv s.data.toList).getD (i+1) 0=61 then (if uV (s.extract (bw s.data.toList i) (bw s.data.toList (i+2))) then 2 else 1) else 1:=⟨_,rfl⟩
 have HX:=hid (AV h.vd hi hc hm)
 generalize mC (fI (cY s i)) i=T at HX ⊢
 have HT:=hid h
 have hwl:=mA ((rv s.data.toList).drop i)
 rw [Q_] at hwl
 have HWD:=hid (fun W (hW:qL W s A a B b)=>nI s A a B b i W hW (j_ hi))
 have HPT:=hid (fun (k:Nat) (W:World) (hW:qL W s A a B b) (h1:i≤k) (h2:k≤(rv s.data.toList).length)=>lD s A a B b i k W hW h1 h2)
 have hrow:=h.r
 unfold Bl at HWD HPT ⊢
 generalize bw s.data.toList=BW at HX HPT hm
 generalize hRR:rv s.data.toList=R at *
 generalize hL2:(yO s.data.toList).length=L2 at *
 clear h
 obtain ⟨n,hwn⟩:=nm_ (cV (R.drop i))
 rw [hwn] at hwl HWD
 obtain ⟨q,hq⟩:=nm_ (i+n)
 rw [hq] at HWD
 have hiq:i≤q:=by omega
 have hqr:q≤R.length:=by omega
 have HNQ:=hid hq
 obtain ⟨ad,rfl⟩:=fE hrow (by omega)
 obtain ⟨ad',e0,x0⟩:=iM hrow i hi
 injection e0 with e0
 subst e0
 obtain ⟨r,hr⟩:=nm_ (R[i])
 rw [hr] at x0 hc
 have HC:Hid (∀W,Calls prog 87 #[.int .i64 r] W fun e w'=>e=.returned (.int .i64 4)∧W=w'):=hid (fun W=>by have:=nH r W;rwa [hc] at this)
 obtain ⟨j,hj⟩:=nm_ (i+1)
 obtain ⟨j2,hj2⟩:=nm_ (i+2)
 have hjz:(i:Int)+1=(j:Int):=by omega
 have hjz2:(i:Int)+2=(j2:Int):=by omega
 have hjz3:(j:Int)+1=(j2:Int):=by omega
 rw [hj,hj2] at hm
 have HP1:=hid (fun W hW h2=>HPT.out j W hW (by omega) h2)
 have HP2:=hid (fun W hW h2=>HPT.out j2 W hW (by omega) h2)
 have HJ:=hid (T_ hj hj2)
 have HM:=hid hm
 clear hm HPT hj hj2
 have hnz:(R.length:Int)≤8192:=by omega
 have hraz:(R.length:Int)≤a:=by omega
 have hi0:(0:Int)≤i:=by omega
 have hiz:(i:Int)<R.length:=by omega
 have hqz:(q:Int)≤8192:=by omega
 have hiqz:(i:Int)≤q:=by omega
 have HROW:=hid hrow
 have hltx:=N_ w _ x0
 obtain ⟨w0,hw0,hb0,_⟩:=alo_ w (.cells #[.string s,.slice (some ad) R.length a,.slice B L2 b] 99 (0,0))
 have hq0:xO w0 w.heap.size s (.slice (some ad) R.length a) (.slice B L2 b):=hw0▸I_ _ _
 obtain ⟨w1,hw1,hb1,hz1⟩:=alo_ w0 (.cells #[.int .i64 0,.string ⟨#[]⟩,.int .i64 0,.int .i64 0] 60 (0,0))
 have hq1:=bp_ hb1 hq0
 have hb01:=hb0.trans (hb1.mono hb0.size)
 obtain ⟨K,hK⟩:=nm_ w.heap.size
 obtain ⟨P,hP⟩:=nm_ w0.heap.size
 have hKP:w.heap.size≤P:=by rw [←hP];exact hb0.size
 have HKP:=hid hKP
 have H1:Hid (Gy w K P s (some ad) a B b R.length L2 w1):=hid ⟨HT.out.below hb01,by rw [←hK];exact hq1,by rw [←hP];exact hz1,hb01⟩
 have x1:=(hb01.cell hltx).trans x0
 have HX1:=hid x1
 have HL1:=hid (Y_ hltx hb01.size)
 obtain ⟨⟨y0,y1,y2⟩,_⟩:=iN H1.out.box
 have hlK:=aC H1.out.box
 clear hwn hq hrow x0 hltx hb0 hq0 hb1 hz1 hq1 hb01 hKP x1 HT hr
 go_enter func59,ntmps59
 go_wp2_with fail
 clear hw0 hw1 hK hP
 refine (HWD.out w1 H1.out.txt).mono ?_
 rintro e w2 ⟨rfl,hb2⟩
 have H2:=hid (H1.out.step hb2)
 have x2:=(hb2.cell HL1.out).trans HX1.out
 have hlx:=Y_ HL1.out hb2.size
 have HROW2:=hid ((HROW.out.keep (Same.of_below (M:=[]) H2.out.below)))
 clear y0 y1 y2 hlK hb2
 obtain ⟨⟨y0,y1,y2⟩,_⟩:=iN H2.out.box
 have hlK:=aC H2.out.box
 go_wp2_with fail
 refine (HC.out w2).mono ?_
 rintro e w3 ⟨rfl,rfl⟩
 by_cases hl:j<R.length
 ·have hlz:(j:Int)<R.length:=by omega
  have hj0:(0:Int)≤j:=by omega
  obtain ⟨ad',e0,v0⟩:=iM HROW2.out j hl
  injection e0 with e0
  subst e0
  have hltv:=N_ w2 _ v0
  obtain ⟨u,hu⟩:=nm_ (R[j])
  have hg:R.getD j 0=u:=by rw [S_,R_ hl,hu];rfl
  rw [hu] at v0
  by_cases h61:u=61
  ·have hm1:m=if uV (s.extract (BW i) (BW j2)) then 2 else 1:=by rw [HM.out,M_ ⟨hl,by rw [hg];exact h61⟩]
   subst h61
   have HM1:=hid hm1
   clear hm1 hg hu
   go_wp2_with fail
   refine (HP2.out w2 H2.out.txt (by omega)).mono ?_
   rintro e w4 ⟨rfl,hb4⟩
   have H4:=hid (H2.out.step hb4)
   clear y0 y1 y2 hlK hb4 hltv v0
   obtain ⟨⟨y0,y1,y2⟩,_⟩:=iN H4.out.box
   have hlK:=aC H4.out.box
   obtain ⟨p2,hp2⟩:=nm_ (s.extract (BW i) (BW j2))
   have hm1:=HM1.out
   rw [hp2] at hm1 ⊢
   have HP2E:=hid hp2
   have hI:uV p2=(p2.toList == [60,61] || (p2.toList == [62,61] || (p2.toList == [61,61] || (p2.toList == [33,61] || p2.toList == [58,61])))):=by unfold uV dK;rw [Lib.toList_data]
   have hw:((((p2.toList == [60,61])=true)∨((p2.toList == [60,61])=false∧(p2.toList == [62,61])=true)∨((p2.toList == [60,61])=false∧(p2.toList == [62,61])=false∧(p2.toList == [61,61])=true)∨((p2.toList == [60,61])=false∧(p2.toList == [62,61])=false∧(p2.toList == [61,61])=false∧(p2.toList == [33,61])=true)∨((p2.toList == [60,61])=false∧(p2.toList == [62,61])=false∧(p2.toList == [61,61])=false∧(p2.toList == [33,61])=false∧(p2.toList == [58,61])=true))∧m=2)∨((p2.toList == [60,61])=false∧(p2.toList == [62,61])=false∧(p2.toList == [61,61])=false∧(p2.toList == [33,61])=false∧(p2.toList == [58,61])=false∧m=1):=by
    rw [hI] at hm1
    cases e1:(p2.toList == [60,61]) with
    | true=>exact .inl ⟨.inl rfl,by rw [hm1,e1];rfl⟩
    | false=>
    cases e2:(p2.toList == [62,61]) with
    | true=>exact .inl ⟨.inr (.inl ⟨rfl,rfl⟩),by rw [hm1,e1,e2];rfl⟩
    | false=>
    cases e3:(p2.toList == [61,61]) with
    | true=>exact .inl ⟨.inr (.inr (.inl ⟨rfl,rfl,rfl⟩)),by rw [hm1,e1,e2,e3];rfl⟩
    | false=>
    cases e4:(p2.toList == [33,61]) with
    | true=>exact .inl ⟨.inr (.inr (.inr (.inl ⟨rfl,rfl,rfl,rfl⟩))),by rw [hm1,e1,e2,e3,e4];rfl⟩
    | false=>
    cases e5:(p2.toList == [58,61]) with
    | true=>exact .inl ⟨.inr (.inr (.inr (.inr (⟨rfl,rfl,rfl,rfl,rfl⟩)))),by rw [hm1,e1,e2,e3,e4,e5];rfl⟩
    | false=>
    exact .inr ⟨rfl,rfl,rfl,rfl,rfl,by rw [hm1,e1,e2,e3,e4,e5];rfl⟩
   clear hp2 hI hm1
   rcases hw with ⟨hw,hm2⟩ | ⟨e1,e2,e3,e4,e5,hm1⟩
   ·have HE:Hid (T=(⟨4,p2,0,i⟩,(j2:Int),0)):=hid (by rw [HX.out,hm2,HJ.out.2,HP2E.out])
    clear hm2
    rcases hw with e1 | ⟨e1,e2⟩ | ⟨e1,e2,e3⟩ | ⟨e1,e2,e3,e4⟩ | ⟨e1,e2,e3,e4,e5⟩
    all_goals
     go_wp2_with fail
     refine (HP2.out w4 H4.out.txt (by omega)).mono ?_
     rw [HP2E.out]
     rintro e w5 ⟨rfl,hb5⟩
     have H5:=hid (H4.out.step hb5)
     clear y0 y1 y2 hlK hb5
     obtain ⟨⟨z0,z1,z2,z3⟩,g0,g1,g2,g3⟩:=aK H5.out.out
     have hlP:=aC H5.out.out
     go_wp2
     refine L_ (v:=.tuple #[.agg #[.int .i64 4,.string p2,.int .i64 0,.int .i64 i],.int .i64 j2,.int .i64 0]) (by simp [results,results59,go_sem, *]) rfl ?_
     exact ⟨by rw [HE.out];first | done | rfl,aH H5.out.below HKP.out _ _ _ _⟩
   ·have HE:Hid (T=(⟨4,s.extract (BW i) (BW j),0,i⟩,(j:Int),0)):=hid (by rw [HX.out,hm1,HJ.out.1])
    clear hm1
    go_wp2_with fail
    refine (HP1.out w4 H4.out.txt (by omega)).mono ?_
    rintro e w5 ⟨rfl,hb5⟩
    have H5:=hid (H4.out.step hb5)
    clear y0 y1 y2 hlK hb5
    generalize s.extract (BW i) (BW j)=tx at HE ⊢
    obtain ⟨⟨z0,z1,z2,z3⟩,g0,g1,g2,g3⟩:=aK H5.out.out
    have hlP:=aC H5.out.out
    go_wp2
    refine L_ (v:=.tuple #[.agg #[.int .i64 4,.string tx,.int .i64 0,.int .i64 i],.int .i64 j,.int .i64 0]) (by simp [results,results59,go_sem, *]) rfl ?_
    exact ⟨by rw [HE.out];first | done | rfl,aH H5.out.below HKP.out _ _ _ _⟩
  ·have hm1:m=1:=by rw [HM.out,K_ (by rw [hg];exact fun e=>h61 e.2)]
   have h61b:(u == 61)=false:=aW h61
   have HE:Hid (T=(⟨4,s.extract (BW i) (BW j),0,i⟩,(j:Int),0)):=hid (by rw [HX.out,hm1,HJ.out.1])
   clear hm1 hg hu h61
   go_wp2_with fail
   refine (HP1.out w2 H2.out.txt (by omega)).mono ?_
   rintro e w4 ⟨rfl,hb4⟩
   have H4:=hid (H2.out.step hb4)
   clear y0 y1 y2 hlK hb4
   generalize s.extract (BW i) (BW j)=tx at HE ⊢
   obtain ⟨⟨z0,z1,z2,z3⟩,g0,g1,g2,g3⟩:=aK H4.out.out
   have hlP:=aC H4.out.out
   go_wp2
   refine L_ (v:=.tuple #[.agg #[.int .i64 4,.string tx,.int .i64 0,.int .i64 i],.int .i64 j,.int .i64 0]) (by simp [results,results59,go_sem, *]) rfl ?_
   exact ⟨by rw [HE.out];first | done | rfl,aH H4.out.below HKP.out _ _ _ _⟩
 ·have hm1:m=1:=by rw [HM.out,K_ (fun e=>hl e.1)]
  have hlz:(R.length:Int)≤j:=by omega
  have HE:Hid (T=(⟨4,s.extract (BW i) (BW j),0,i⟩,(j:Int),0)):=hid (by rw [HX.out,hm1,HJ.out.1])
  clear hm1 hl
  go_wp2_with fail
  refine (HP1.out w2 H2.out.txt (by omega)).mono ?_
  rintro e w4 ⟨rfl,hb4⟩
  have H4:=hid (H2.out.step hb4)
  clear y0 y1 y2 hlK hb4
  generalize s.extract (BW i) (BW j)=tx at HE ⊢
  obtain ⟨⟨z0,z1,z2,z3⟩,g0,g1,g2,g3⟩:=aK H4.out.out
  have hlP:=aC H4.out.out
  go_wp2
  refine L_ (v:=.tuple #[.agg #[.int .i64 4,.string tx,.int .i64 0,.int .i64 i],.int .i64 j,.int .i64 0]) (by simp [results,results59,go_sem, *]) rfl ?_
  exact ⟨by rw [HE.out];first | done | rfl,aH H4.out.below HKP.out _ _ _ _⟩
theorem Vb (s A a B b i w) (h:qL w s A a B b) (hi:i<(rv s.data.toList).length) :
  Calls prog 59 #[Bl s A a B b,.int .i64 i] w (pO (mC (fI (cY s i)) i) w):=by
 by_cases h2:dJ (rv s.data.toList)[i]=2
 ·exact Uw s A a B b i w h hi h2
 ·by_cases h3:dJ (rv s.data.toList)[i]=3
  ·exact Ux s A a B b i w h hi h3
  ·by_cases h5:dJ (rv s.data.toList)[i]=5
   ·exact Uy s A a B b i w h hi h5
   ·by_cases h4:dJ (rv s.data.toList)[i]=4
    ·exact Va s A a B b i w h hi h4
    ·exact Uz s A a B b i w h hi ⟨h2,h3,h5,h4⟩
theorem yP:∀(rs:List (Nat × Nat)) (k:Int) (p:Nat),fO rs=false→qQ k rs=k+(mG rs p).length
 | [],_,_,h=>by cases h
 | r::rs,k,p,h=>by
  rw [fO] at h
  rw [qQ,mG]
  by_cases e:r=(65533,1)
  ·rw [M_ e,M_ e];simp
  ·rw [K_ e] at h
   rw [K_ e,K_ e,yP rs (k+1) (p+r.2) h,P_]
   omega
theorem Qi {l} (h:fO (aI l)=true):Vd l:=by
 rw [sT,List.all_eq_true] at h
 intro x hx e
 have:=h x hx
 rw [e] at this
 simp at this
theorem Db {s} (i):(cY s i).length=s.size - bw s.data.toList i:=by unfold cY;rw [Q_,aJ]
theorem Ye {s} (hv:Vd s.data.toList):cY s (rv s.data.toList).length=[]:=by
 unfold cY
 rw [jI,Zo hv,List.drop_length]
theorem Yf {x i} (h:x.2.2=0):mC x i=({ x.1 with at_:=(i:Int) },((i+x.2.1:Nat):Int),0):=M_ h
theorem Vc {x i} (h:x.2.2≠0):mC x i=(cB,0,x.2.2):=K_ h
theorem Gz:(Tryz.prog.info? 60).map (fun i=>(i.zero,i.size,i.bytes))=some (some (.agg #[.int .i64 0,.string ⟨#[]⟩,.int .i64 0,.int .i64 0]),4,40):=by kernel_rfl
theorem Zs {l} (hl:l≠[]) {k} (h:1≤k):1≤bw l k:=by
 obtain ⟨d,rfl⟩:=pk_ k 1 (by omega)
 have:=decodeL_width l
 rw [gT hl]
 omega
theorem Qj {s} (hv:Vd s.data.toList) {f i out} (h:i<(rv s.data.toList).length) (ho:out.length≠2000) {t cnt} (hx:fI (cY s i)=(t,cnt,0)) :
  i+cnt≤(rv s.data.toList).length∧(cY s (i+cnt+bI false ((rv s.data.toList).drop (i+cnt)))).length<(cY s i).length ∧
   gJ (f+1) (cY s i) i out=gJ f (cY s (i+cnt+bI false ((rv s.data.toList).drop (i+cnt)))) ((i+cnt+bI false ((rv s.data.toList).drop (i+cnt)):Nat):Int) (out++[{ t with at_:=(i:Int) }]):=by
 have hne:=Km hv h
 obtain ⟨hvx,hrx⟩:=zD hv (j_ h)
 obtain ⟨_,h2,h3⟩:=(Cz hne hvx).len (by rw [hx])
 rw [hx] at h2 h3
 simp only at h2 h3
 have hlen:=jI (cY s i)
 rw [hrx,Q_] at hlen
 have hj:i+cnt≤(rv s.data.toList).length:=by omega
 have hp:=lZ ((rv s.data.toList).drop (i+cnt)) false
 rw [Q_] at hp
 obtain ⟨a1,a2⟩:=vP hv (k:=cnt) (j_ h)
 obtain ⟨b1,b2⟩:=vP hv (k:=bI false ((rv s.data.toList).drop (i+cnt))) hj
 have hb:=Zs hne h2
 have hpos:0<(cY s i).length:=F_ hne
 refine ⟨hj,?_,?_⟩
 ·rw [Db] at hpos ⊢
  rw [Db]
  omega
 ·rw [Qg hne hvx ho (by rw [hx]),hx]
  simp only
  rw [←a2,(zD hv hj).2,←b2]
  rw [show (i:Int)+(cnt:Int)+(bI false ((rv s.data.toList).drop (i+cnt)):Int)=((i+cnt+bI false ((rv s.data.toList).drop (i+cnt)):Nat):Int) by omega]
structure Qk (s:ByteArray) (w1:World) (K:Nat) (A:Option Addr) (a:Nat) (B:Option Addr) (b L1 L2:Nat) (base:Nat) (out:List bQ) (v:Value) (W:World):Prop where
 txt:qL W s A a B b
 box:xO W K s (.slice A L1 a) (.slice B L2 b)
 own:W.ownsRow base 60 4 v out.length (out.flatMap uX)
 below:Below base w1 W
theorem Qk.step {s w1 W W' K A a B b L1 L2 base out v} (h:Qk s w1 K A a B b L1 L2 base out v W) (hb:Below W.heap.size W W') (hs:base≤W.heap.size):Qk s w1 K A a B b L1 L2 base out v W':=
 ⟨h.txt.below hb,(hb.block K (aC h.box)).trans h.box,iW h.own hb,h.below.trans (hb.mono hs)⟩
theorem Ha (s w) (hs:s.size≤9223372036854775806):Calls prog 32 #[.string s] w (jM s w):=by
 by_cases h1:8192<s.size
 ·have hz:(8192:Int)<s.size:=by omega
  have HX:Hid (cI s=([],2,0)):=by unfold cI;rw [M_ h1];exact rfl
  clear h1
  go_enter func32,ntmps32
  go_wp2_with fail
  refine L_ (results_tmp3 rfl _ _ _) rfl ?_
  exact eZ HX.out (J_ _ _)
 have hz:(s.size:Int)≤8192:=by omega
 have hs8:s.size≤8192:=by omega
 have HRU:=hid (xR s w (by omega))
 clear hs
 go_enter func32,ntmps32
 go_wp2_with fail
 refine HRU.out.mono ?_
 rintro r w1 ⟨R,Z,A,a,B,b,ok,hR,hZ,hok,rfl,hla,hlb,hra,hrb,hb1⟩
 have HB1:=hid hb1
 obtain ⟨w2,hw2,hb2,_⟩:=alo_ w1 (.cells #[.string s,.slice A R.length a,.slice B Z.length b] 99 (0,0))
 have hq2:xO w2 w1.heap.size s (.slice A R.length a) (.slice B Z.length b):=hw2▸I_ _ _
 have HB2:=tm_ HB1 hb2
 cases ok
 ·have HX:Hid (cI s=([],10,(R.length:Int))):=hid (by
   have hbad:=yP (aI s.data.toList) 0 0 hok.symm
   rw [←hR,Int.zero_add] at hbad
   unfold cI
   rw [K_ h1,hbad,M_ (by omega)])
  obtain ⟨⟨y0,y1,y2⟩,_⟩:=iN hq2
  have hlK:=aC hq2
  have hmz:(R.length:Int)≤9223372036854775807:=by have:=hra.1;omega
  clear hR hZ hok hla hlb hra hrb hb1 hb2 hq2 HRU h1
  go_wp2_with fail
  go_quiet (fail)
  go_wp2_with fail
  refine L_ (results_tmp3 rfl _ _ _) rfl ?_
  exact eZ HX.out (dM HB2.out _)
 ·have hv:Vd s.data.toList:=Qi hok.symm
  have hR2:R=rv s.data.toList:=by rw [hR];exact xI _ 0 hok.symm
  have hZ2:Z=yO s.data.toList:=hZ
  subst hR2 hZ2
  have HTX:Hid (qL w2 s A a B b):=hid ⟨hv,hs8,hra.keep (Same.of_below hb2),hla,hrb.keep (Same.of_below hb2),hlb⟩
  have HV:=hid hv
  obtain ⟨ANS,hANS⟩:=nm_ (cI s)
  have HX:Hid (gJ (s.size+1) (cY s (bI false (rv s.data.toList))) (bI false (rv s.data.toList):Nat) []=ANS):=hid (by
   rw [←hANS]
   unfold cI
   rw [K_ h1,K_ (by rw [Le _ _ hv];decide),Mp _ _ hv]
   simp only [Int.zero_add]
   rfl)
  have HANS:=hid hANS
  have HPA:=hid (fun i W (hW:qL W s A a B b) hi=>Qh s A a B b i W hW hi)
  have HTK:=hid (fun i W (hW:qL W s A a B b) hi=>Vb s A a B b i W hW hi)
  have hn:=HTX.out.runes_le
  unfold Bl at HPA HTK
  obtain ⟨K,hK⟩:=nm_ w1.heap.size
  have H0:Hid (Qk s w2 K A a B b (rv s.data.toList).length (yO s.data.toList).length w2.heap.size [] (.slice none 0 0) w2):=hid ⟨HTX.out,by rw [←hK];exact hq2,⟨rfl,.inl ⟨rfl,rfl⟩⟩,J_ _ _⟩
  obtain ⟨⟨y0,y1,y2⟩,_⟩:=iN H0.out.box
  have hlK:=aC H0.out.box
  have HP0:=HPA.out 0 w2 HTX.out (h_ _)
  rw [Nat.zero_add,List.drop_zero,show ((0:Nat):Int)=0 from rfl] at HP0
  have HPP:=hid HP0
  have hp0:=lZ (rv s.data.toList) false
  obtain ⟨p0,hpp⟩:=nm_ (bI false (rv s.data.toList))
  rw [hpp] at HX HPP hp0
  clear hR hZ hok hla hlb hra hrb hb1 hb2 hq2 HRU h1 hv hANS HP0 hpp
  go_wp2_with fail
  clear hw2 hK
  refine HPP.out.mono ?_
  rintro e w3 ⟨rfl,hb3⟩
  have H3:=hid (H0.out.step hb3 le_)
  have hs3:=hb3.size
  clear y0 y1 y2 hlK hb3
  go_wp2_with fail
  go_loopg [7,8] (s.size+1) (fun k s7 s8 w'=>∃(i:Nat) (V:Option Addr) (c:Nat) (out:List bQ),s8=.int .i64 i∧s7=.slice V out.length c∧i≤(rv s.data.toList).length∧out.length≤2000∧(cY s i).length<k∧w2.heap.size≤w'.heap.size ∧
   Qk s w2 K A a B b (rv s.data.toList).length (yO s.data.toList).length w2.heap.size out (.slice V out.length c) w'∧gJ k (cY s i) i out=ANS)
  case atStart=>exact ⟨p0,none,0,[],rfl,rfl,hp0,by simp,by rw [Db];omega,hs3,H3.out,HX.out⟩
  case round=>
   obtain ⟨i,V,c,out,rfl,rfl,hi,ho,hik,hsr,hcw,hans⟩:=hrel
   obtain ⟨gk,rfl⟩:=pk_ gk 1 (by omega)
   have H:=hid hcw
   have HA:=hid hans
   have hi0:(0:Int)≤i:=by omega
   have hnz:((rv s.data.toList).length:Int)≤8192:=by omega
   have hoz:(out.length:Int)≤2000:=by omega
   obtain ⟨⟨y0,y1,y2⟩,_⟩:=iN hcw.box
   have hlK:=aC hcw.box
   clear hcw hans HX HPP
   by_cases hlt:i<(rv s.data.toList).length
   ·have hltz:(i:Int)<(rv s.data.toList).length:=by omega
    have hne:=Km HV.out hlt
    have HNE:=hid hne
    have hvx:=(zD HV.out (j_ hlt)).1
    have HVX:=hid hvx
    by_cases hout:out.length=2000
    ·have hob:((out.length:Int) == 2000)=true:=D_ (by omega)
     have HE:Hid (cI s=([],2,(i:Int))):=hid (by rw [HANS.out,←HA.out,tW hne hout])
     clear hne hvx hout
     go_wp2_with fail
     refine L_ (results_tmp3 rfl _ _ _) rfl ?_
     exact eZ HE.out (HB2.out.trans (H.out.below.mono HB2.out.size))
    ·have hob:((out.length:Int) == 2000)=false:=aW (by omega)
     obtain ⟨⟨⟨tk,tx,tn,ta⟩,cnt,te⟩,hx⟩:∃x,fI (cY s i)=x:=⟨_,rfl⟩
     have hst:=HTK.out i wr H.out.txt hlt
     rw [hx] at hst
     by_cases he:te=0
     ·subst he
      rw [Yf rfl] at hst
      obtain ⟨s1,s2,s3⟩:=Qj (f:=gk) HV.out hlt hout hx
      rw [HA.out] at s3
      obtain ⟨j,hj⟩:=nm_ (i+cnt)
      unfold pO at hst
      simp only at hst
      rw [hj] at s1 s2 s3 hst
      have hpl:=lZ ((rv s.data.toList).drop j) false
      rw [Q_] at hpl
      obtain ⟨i2,hi2⟩:=nm_ (j+bI false ((rv s.data.toList).drop j))
      have HPS:Hid (∀W,qL W s A a B b→Calls prog 58 #[.agg #[.string s,.slice A (rv s.data.toList).length a,.slice B (yO s.data.toList).length b],.int .i64 j] W fun r w'=>r=.returned (.int .i64 i2)∧Below W.heap.size W w'):=hid (fun W hW=>by have:=HPA.out j W hW s1;rwa [hi2] at this)
      rw [hi2] at s2 s3
      have hi2n:i2≤(rv s.data.toList).length:=by omega
      have HST:=hid hst
      have HS3:=hid s3.symm
      have HS2:=hid s2
      clear hne hvx hx hst s3 s2 hj hi2 hpl s1
      go_wp2_with fail
      refine HST.out.mono ?_
      rintro r w4 ⟨rfl,hb4⟩
      have H4:=hid (H.out.step hb4 hsr)
      have hs4:w2.heap.size≤w4.heap.size:=d_ hsr hb4.size
      clear y0 y1 y2 hlK hb4
      obtain ⟨w5,hw5,hb5,hq5⟩:=alo_ w4 (.cells #[.int .i64 tk,.string tx,.int .i64 tn,.int .i64 i] 60 (0,0))
      have H5:=hid (H4.out.step hb5 hs4)
      have hs5:w2.heap.size≤w5.heap.size:=d_ hs4 hb5.size
      obtain ⟨⟨z0,z1,z2,z3⟩,_⟩:=cC hq5
      have hl5:=aC hq5
      obtain ⟨i0,hi0',hz0,hz1,hz2⟩:=info_parts Gz
      clear hb5 hq5
      go_wp2_with (at_builtin;refine wpList_append_lies _ (by rfl) _ _ _ (by rfl) w2.heap.size 60 i0 _ 4 40 underlying46 hi0' hz0 hz1 hz2 rfl (by omega) (.slice V out.length c) out.length (out.flatMap uX) (by rfl) (H5.out.own.alloc _) ⟨w5.heap.size,0,none⟩ 1 1 [.int .i64 tk,.string tx,.int .i64 tn,.int .i64 i] (by rfl) (by rfl) (World.news_of_block (cs:=#[.int .i64 tk,.string tx,.int .i64 tn,.int .i64 i]) (t:=60) (fr:=(0,0)) (I_ w5 _)) (by simp [Value.oneCell']) (by omega) (by unfold maxLen;omega) (by omega) (by simp;omega) (w5.heap.size+1) (by simp) ?_;intro g cap w6 hown6 hgrow hat hlt6;refine Hid.out ?_)
      refine hid ?_
      have hS6:Same [] w2 w6:=((Same.of_below (M:=[]) H5.out.below).alloc _).grown hgrow (fun k hk=>.inr (aS H5.out.own k hk).1)
      have hb6:=hS6.below
      have hl1:(out++[(⟨tk,tx,tn,i⟩:bQ)]).length=out.length+1:=by simp
      have H6:Hid (Qk s w2 K A a B b (rv s.data.toList).length (yO s.data.toList).length w2.heap.size (out++[(⟨tk,tx,tn,i⟩:bQ)]) (.slice (some ⟨g,0,none⟩) (out++[(⟨tk,tx,tn,i⟩:bQ)]).length cap) w6):=hid ⟨HTX.out.below hb6,(hb6.block K (aC H0.out.box)).trans H0.out.box,by rw [q_,hl1];exact hown6,hb6⟩
      have hs6:=hb6.size
      clear hS6 hb6 hown6 hgrow hat hlt6 z0 z1 z2 z3 hl5 hw5 hs4 hs5 hi0' hz0 hz1 hz2
      obtain ⟨⟨y0,y1,y2⟩,_⟩:=iN H6.out.box
      have hlK:=aC H6.out.box
      go_wp2_with fail
      refine (HPS.out w6 H6.out.txt).mono ?_
      rintro r w7 ⟨rfl,hb7⟩
      have H7:=hid (H6.out.step hb7 hs6)
      have hs7:=d_ hs6 hb7.size
      clear y0 y1 y2 hlK hb7
      go_wp2_with fail
      go_roundg gk
      case measure=>omega
      case rel=>exact ⟨i2,some ⟨g,0,none⟩,cap,out++[⟨tk,tx,tn,i⟩],rfl,by rw [hl1],hi2n,by rw [hl1];omega,by have:=HS2.out;omega,hs7,H7.out,HS3.out⟩
     ·have hE:=Uu (f:=gk) (a:=(i:Int)) (out:=out) hne hvx hout (by rw [hx];exact he)
      rw [hx,HA.out] at hE
      have HE:Hid (cI s=([],te,(i:Int))):=hid (by rw [HANS.out,hE])
      rw [Vc (x:=(⟨tk,tx,tn,ta⟩,cnt,te)) he] at hst
      unfold pO cB at hst
      simp only at hst
      have HST:=hid hst
      have heb:(te != 0)=true:=kB he
      clear hne hvx hx hst hE he
      go_wp2_with fail
      refine HST.out.mono ?_
      rintro r w4 ⟨rfl,hb4⟩
      have H4:=hid (H.out.step hb4 hsr)
      have hs4:w2.heap.size≤w4.heap.size:=d_ hsr hb4.size
      clear y0 y1 y2 hlK hb4
      go_wp2_with fail
      refine L_ (results_tmp3 rfl _ _ _) rfl ?_
      exact eZ HE.out (HB2.out.trans ((H4.out.below.alloc hs4 _).mono HB2.out.size))
   ·obtain rfl:i=(rv s.data.toList).length:=by omega
    have hE:=HA.out
    rw [Ye HV.out,xB] at hE
    have HE:Hid (cI s=(out++[⟨0,⟨#[]⟩,0,((rv s.data.toList).length:Int)⟩],0,0)):=hid (by rw [HANS.out,hE])
    have hnl:¬(((rv s.data.toList).length:Int)<(rv s.data.toList).length):=by omega
    obtain ⟨i0,hi0',hz0,hz1,hz2⟩:=info_parts Gz
    obtain ⟨n,hnn⟩:=nm_ ((rv s.data.toList).length)
    clear hE
    go_wp2_with (at_builtin;refine wpList_append_lies _ (by rfl) _ _ _ (by rfl) w2.heap.size 60 i0 _ 4 40 underlying46 hi0' hz0 hz1 hz2 rfl (by omega) (.slice V out.length c) out.length (out.flatMap uX) (by rfl) (H.out.own.alloc _) ⟨wr.heap.size,0,none⟩ 1 1 [.int .i64 0,.string ⟨#[]⟩,.int .i64 0,.int .i64 n] (by rfl) (by rfl) (World.news_of_block (cs:=#[.int .i64 0,.string ⟨#[]⟩,.int .i64 0,.int .i64 n]) (t:=60) (fr:=(0,0)) (I_ wr _)) (by simp [Value.oneCell']) (by omega) (by unfold maxLen;omega) (by omega) (by simp;omega) (wr.heap.size+1) (by simp) ?_;intro g cap w6 hown6 hgrow hat hlt6;refine Hid.out ?_)
    refine hid ?_
    have hS6:Same [] w2 w6:=((Same.of_below (M:=[]) H.out.below).alloc _).grown hgrow (fun k hk=>.inr (aS H.out.own k hk).1)
    have HW6:=tm_ HB2 hS6.below
    have ho6:w6.ownsRow w2.heap.size 60 4 (.slice (some ⟨g,0,none⟩) (out.length+1) cap) (out++[(⟨0,⟨#[]⟩,0,(n:Int)⟩:bQ)]).length ((out++[(⟨0,⟨#[]⟩,0,(n:Int)⟩:bQ)]).flatMap uX):=by
     rw [q_,O_]
     exact hown6
    have HO6:=hid ho6
    have HE2:Hid (cI s=(out++[⟨0,⟨#[]⟩,0,(n:Int)⟩],0,0)):=hid (by rw [←hnn];exact HE.out)
    clear hS6 ho6 hown6 hgrow hat hlt6 y0 y1 y2 hlK hi0' hz0 hz1 hz2
    go_wp2_with fail
    refine L_ (results_tmp3 rfl _ _ _) rfl ?_
    exact xC HE2.out HO6.out HB2.out.size HW6.out
theorem Hb:∀(f:Nat) (l:List UInt8) (a:Int) (out:List bQ),out.length≤2000→(gJ f l a out).1.length≤2001
 | 0,_,_,_,_=>by simp [gJ]
 | f+1,l,a,out,h=>by
  by_cases hl:l=[]
  ·subst hl;rw [xB];simp;omega
  ·by_cases ho:out.length=2000
   ·rw [tW hl ho];simp
   ·by_cases he:(eX l).2.2=0
    ·rw [tV hl ho he]
     exact Hb f _ _ _ (by simp;omega)
    ·rw [wZ hl ho he];simp
theorem Ve (s):(cI s).1.length≤2001:=by
 unfold cI
 split
 ·simp
 ·split
  ·simp
  ·exact Hb _ _ _ _ (by simp)
end Go.Proofs.YtgcfjkfipkfijaaGreatDoor
