/- Part 52 of the proof of rtrees_card; no conditions. -/
import Derived.Test.YtgcfjkfipkfijaaGreatDoorTr01
import Derived.Test.YtgcfjkfipkfijaaGreatDoorTr45
import Derived.Test.YtgcfjkfipkfijaaGreatDoorTr46
import Derived.Test.YtgcfjkfipkfijaaGreatDoorTr51
import Derived.Test.YtgcfjkfipkfijaaGreatDoorTr41
import Derived.Test.YtgcfjkfipkfijaaGreatDoorTr22
set_option maxRecDepth 100000
set_option maxHeartbeats 8000000
namespace Go.Proofs.YtgcfjkfipkfijaaGreatDoor
open Go Go.RowKit Go.Lib _root_.Go.Proofs.Tryz
theorem Kn (s w) (hs:s.size≤9223372036854775806) (h0:(cI s).2.1≠0):Calls prog 10 #[.string s] w (kR (Dq,(cI s).2.1,(cI s).2.2) w):=by
 obtain ⟨w1,hw1,hb1,hz1⟩:=alo_ w (.cells #[.string ⟨#[]⟩,.slice none 0 0,.slice none 0 0] 26 (0,0))
 have HCUT:=hid (Ha s w1 hs)
 obtain ⟨K,hK⟩:=nm_ w.heap.size
 obtain ⟨⟨tk,ce,ca⟩,hc⟩:∃c,cI s=c:=⟨_,rfl⟩
 rw [hc] at h0 ⊢
 have HC:=hid hc
 have HK:=hid hK
 rw [hK] at hz1
 have H1:=hj_ hb1 hz1
 have HW1:=hid hw1
 have hk1:K<w1.heap.size:=aC hz1
 have h0b:(ce != 0)=true:=B_ h0
 clear hb1 hz1 hw1 hK hc h0
 go_enter func10,ntmps10
 go_wp2_with (rw [HW1.out,HK.out];refine HCUT.out.mono ?_;unfold jM;rw [HC.out];rintro r w2 ⟨A,c,rfl,hlc,hrow,hb2⟩;obtain ⟨⟨z0,z1,z2⟩,f0,f1,f2⟩:=bH ((hb2.block _ hk1).trans H1.out.2);have H2:=hid hb2;clear hlc hrow hb2)
 refine L_ (v:=.tuple #[.agg #[.string ⟨#[]⟩,.slice none 0 0,.slice none 0 0],.int .i64 ce,.int .i64 ca]) (by simp [results,results10,go_sem, *]) rfl ?_
 exact vJ HK.out (H1.out.1.trans (H2.out.mono H1.out.1.size)) _ _ _ rfl rfl rfl rfl
theorem Hc {w W K e a} (hK:w.heap.size=K) (hb:Below w.heap.size w W) (x y z) :
  kR (Dq,e,a) w (.returned (.tuple #[.agg #[.string ⟨#[]⟩,.slice none 0 0,.slice none 0 0],.int .i64 e,.int .i64 a])) (((W.setCell ⟨K,0,none⟩ x).setCell ⟨K,1,none⟩ y).setCell ⟨K,2,none⟩ z).drew:=by
 obtain ⟨_,_,_,_,_,_,_,h⟩:=vJ (e:=e) (a:=a) (pA:=none) (nA:=none) (pc:=0) (nc:=0) hK hb x y z rfl rfl rfl rfl
 exact ⟨none,0,none,0,rfl,aO.nil _ _ _ _ _,aO.nil _ _ _ _ _,h.drew⟩
section
variable {l : List bQ} {g c b0 b1 b K : Nat} {A B : Option Addr} {s : RS} {w w' : World} {nm nv pV : Value} {ps : List oF}
theorem Ql {U} (h:w.heap[U]? = some (.cells #[.int .i64 0,.slice none 0 0,.slice none 0 0,.string ⟨#[]⟩,.slice none 0 0,.int .i64 0,.int .i64 0,.string ⟨#[]⟩,.slice none 0 0] 43 (0,0))) (hU:b0≤U):dF b0 (fun k=>k<b0) w (some ⟨U,0,none⟩) 1 1 [rQ 0]:=
 ⟨rfl,⟨rfl,.inr ⟨U,1,#[.int .i64 0,.slice none 0 0,.slice none 0 0,.string ⟨#[]⟩,.slice none 0 0,.int .i64 0,.int .i64 0,.string ⟨#[]⟩,.slice none 0 0],rfl,hU,h,H_ _,by unfold maxLen;decide,rfl,rfl⟩⟩,fun q hq=>by
  simp only [List.mem_singleton] at hq
  subst hq
  exact World.ownsRow_nil _ _ _ _,by simp [bJ,Value.ownBlock,rQ,NQ.kV],fun q hq=>by
  simp only [List.mem_singleton] at hq
  subst hq
  exact fV _ _ _⟩
theorem yI.root (h:XP l g A c b0 w s nm nv B b ps) (hb1:w.heap.size=b1) (hn:s.bad=0→s.nodes=1) (hw:(w.setCell ⟨g,5,none⟩ (.slice (some ⟨b1,0,none⟩) 1 1)).alloc (.cells #[.int .i64 0,.slice none 0 0,.slice none 0 0,.string ⟨#[]⟩,.slice none 0 0,.int .i64 0,.int .i64 0,.string ⟨#[]⟩,.slice none 0 0] 43 (0,0))=w') :
  yI l g A c b1 0 nm (.slice B ps.length b) w' s (some ⟨b1,0,none⟩) 1 1 [rQ 0]∧Same [g] w w':=by
 obtain ⟨w2,hw2⟩:=nm_ (w.setCell ⟨g,5,none⟩ (.slice (some ⟨b1,0,none⟩) 1 1))
 have hz2:w2.heap.size=b1:=by rw [←hw2,←hb1];simp
 have hs2:Same [g] w w2:=hw2▸(Same.refl [g] w).setCell (.inl (by simp)) _
 rw [hw2] at hw
 have hb3:Below w2.heap.size w2 w':=hw▸(J_ _ _).alloc le_ _
 have hn3:w'.heap[b1]? = some (.cells #[.int .i64 0,.slice none 0 0,.slice none 0 0,.string ⟨#[]⟩,.slice none 0 0,.int .i64 0,.int .i64 0,.string ⟨#[]⟩,.slice none 0 0] 43 (0,0)):=by rw [←hz2,←hw];exact I_ _ _
 have hg:=h.gb
 have hl:=h.lo
 have hgl:=h.rdr.lt
 have hr2:Cv w2 g A l.length c s (nm,.slice B ps.length b,.slice (some ⟨b1,0,none⟩) 1 1):=hw2▸aZ h.rdr.rd 5 _
 have hX:vO l g A c w2 s (nm,.slice B ps.length b,.slice (some ⟨b1,0,none⟩) 1 1):=⟨hr2,h.rdr.row.keep hs2 (fun k hk=>by simp at hk;omega),h.rdr.inr⟩
 refine ⟨⟨⟨hX.step hb3,Ql hn3 le_,by omega,j_ (aC hn3)⟩,by omega,fun q hq=>?_,fun hb=>by rw [hn hb];rfl⟩,?_⟩
 ·simp only [List.mem_singleton] at hq
  subst hq
  exact Nat.zero_lt_one
 ·exact hs2.then_ (Same.of_below hb3)
end
theorem Hd (s w) (hs:s.size≤9223372036854775806) (h0:(cI s).2.1=0):Calls prog 10 #[.string s] w (kR (iF s) w):=by
 obtain ⟨w1,hw1,hb1,hz1⟩:=alo_ w (.cells #[.string ⟨#[]⟩,.slice none 0 0,.slice none 0 0] 26 (0,0))
 have HCUT:=hid (Ha s w1 hs)
 have T0:=Cj h0
 have S0:=Xw s
 have hl0:=Ve s
 obtain ⟨ANS,hANS⟩:=nm_ (iF s)
 rw [hANS]
 unfold iF at hANS
 simp only at hANS
 obtain ⟨K,hK⟩:=nm_ w.heap.size
 obtain ⟨⟨l,ce,ca⟩,hc⟩:∃c,cI s=c:=⟨_,rfl⟩
 rw [hc] at h0 T0 S0 hl0 hANS
 simp only at h0 T0 S0 hl0 hANS
 subst h0
 rw [K_ (by decide)] at hANS
 have T:fZ l:=T0
 have S:Zn l:=S0
 have hl:l.length≤2001:=hl0
 clear T0 S0 hl0
 obtain ⟨s4,h4⟩:=nm_ (bC l gQ ⟨0,0,1⟩)
 have hin0:iY l ⟨0,0,1⟩:=⟨by show (0:Int)≤0;omega,by show (0:Int)<_;have:=T.fin.1;omega,by show (0:Int)≤1;omega,by show (1:Int)≤27;omega,fun _=>by show (1:Int)≤24;omega⟩
 have hon4:=aQ T.fin gQ (by decide) hin0
 have hct4:=uS (l:=l) (s:=⟨0,0,1⟩) gQ
 rw [h4] at hon4 hct4
 obtain ⟨⟨nm,s5⟩,h5⟩:∃x,bG l [] s4=x:=⟨_,rfl⟩
 have hon5:=hon4.trans (cT T.fin [] hon4.1)
 have hct5:=hct4.trans (jT (l:=l) [])
 rw [h5] at hon5 hct5
 simp only at hon5 hct5
 obtain ⟨⟨PP,s7⟩,h7⟩:∃x,oO l 6 [] s5=x:=⟨_,rfl⟩
 have hon7:=hon5.trans (vF T.fin 6 [] s5 hon5.1)
 simp only [h7] at hon7
 obtain ⟨⟨ks,s8⟩,h8⟩:∃x,aL l (gK l 30) s7=x:=⟨_,rfl⟩
 have hm7:(25:Int) - (30:Nat)≤s7.nodes:=by have:=hon7.2;simp only at this;omega
 have hno:=lN T.fin T.take 30
 have hon8:=dW T.fin hno hon7.1 hm7
 rw [h8] at hon8
 simp only at hon8
 obtain ⟨s9,h9⟩:=nm_ (if s8.bad=0∧(aE l s8.at_).kind≠0 then bB 11 s8 else s8)
 have hrd:rW l=(nm,PP,ks,s9):=by
  unfold rW
  simp only [h4,h5,h7,h8,h9]
 rw [hrd] at hANS
 simp only at hANS
 have HS:=hid (⟨h4,h5,h7,h8,hin0,hon4.1,hon5.1,hct5,hm7,h9⟩:_∧_∧_∧_∧_∧_∧_∧_∧_∧_)
 have HNO:=hid hno
 have HANS:=hid hANS
 have HC:=hid hc
 have HK:=hid hK
 rw [hK] at hz1
 have H1:=hj_ hb1 hz1
 have HW1:=hid hw1
 have hk1:K<w1.heap.size:=aC hz1
 clear hb1 hz1 hw1 hK hc hANS h4 h5 h7 h8 h9 hin0 hon4 hon5 hon7 hon8 hct4 hct5 hno hm7 hrd
 go_enter func10,ntmps10
 go_wp2_with fail
 rw [HW1.out,HK.out]
 refine HCUT.out.mono ?_
 unfold jM
 rw [HC.out]
 rintro r w2 ⟨A,c,rfl,hlc,hrow,hb2⟩
 simp only at hlc hrow
 go_upto_region 5 with fail
 obtain ⟨g,hg⟩:=nm_ w2.heap.size
 obtain ⟨w3,hw3,hb3,_⟩:=alo_ w2 (.cells #[.slice A l.length c,.int .i64 0,.int .i64 0,.string ⟨#[]⟩,.slice none 0 0,.slice none 0 0] 67 (0,0))
 have hk3:Cv w3 g A l.length c ⟨0,0,1⟩ (.string ⟨#[]⟩,.slice none 0 0,.slice none 0 0):=by unfold Cv;rw [←hg,←hw3];exact I_ _ _
 rw [hw3,hg]
 have hR2:aO cN (fun k=>k<w1.heap.size) w2 A c l:=⟨hlc,hrow⟩
 have hX3:vO l g A c w3 ⟨0,0,1⟩ (.string ⟨#[]⟩,.slice none 0 0,.slice none 0 0):=⟨hk3,(hR2.more (fun k hk=>.inr (by omega))).below hb3,HS.out.2.2.2.2.1⟩
 have HX3:=hid hX3
 have hKg:K<g:=by have:=hb2.size;omega
 have hz3:=(hb3.block K (by have:=hb2.size;omega)).trans ((hb2.block K hk1).trans H1.out.2)
 have HW3:=hid (⟨H1.out.1.trans ((hb2.trans (hb3.mono hb2.size)).mono H1.out.1.size),hz3⟩:Below w.heap.size w w3∧_)
 clear hb3 hk3 hw3 hg hR2 hX3 hz3 hlc hrow hb2
 go_wp2_with fail
 refine (bO T HX3.out gQ (by decide)).mono ?_
 rw [HS.out.1]
 rintro e w4 ⟨rfl,hr4,hs4⟩
 have HX4:=hj_ (HX3.out.next hr4 hs4 (fun k hk=>by simp at hk;omega) HS.out.2.2.2.2.2.1) hs4
 clear hr4 hs4
 have hnm:=lA T HX4.out.1 (a:=none) (cc:=0) (had:=[]) (mJ.nil _ _) 1 (by decide)
 rw [show cS l (([]:List ByteArray).length:Nat) 1 s4=s4 from K_ (fun hc=>absurd hc.1 (by decide)),HS.out.2.1] at hnm
 have HNM:=hid hnm
 clear hnm
 go_wp2_with fail
 refine HNM.out.mono ?_
 rintro e w5 ⟨rfl,hr5,hs5⟩
 have hX5:=HX4.out.1.next hr5 hs5 (fun k hk=>by simp at hk;omega) HS.out.2.2.2.2.2.2.1
 have HX5:=hj_ hX5 (HX4.out.2.then_ hs5)
 obtain ⟨⟨q0,q1,q2,q3,q4,q5⟩,_⟩:=iQ hX5.rd
 have hgl:=hX5.lt
 have fz3:=Lib.frozen_of_heap hX5.rd 3
 clear hr5 hs5 hX5
 go_wp2_with fail
 obtain ⟨w6,hw6⟩:=nm_ (w5.setCell ⟨g,3,none⟩ (.string nm))
 have hs6:Same [g] w5 w6:=hw6▸(Same.refl [g] w5).setCell (.inl (by simp)) _
 have hX6:vO l g A c w6 s5 (.string nm,.slice none 0 0,.slice none 0 0):=⟨hw6▸aZ HX5.out.1.rd 3 _,HX5.out.1.row.keep hs6 (fun k hk=>by simp at hk;omega),HX5.out.1.inr⟩
 obtain ⟨b0,hb0⟩:=nm_ w6.heap.size
 have hP6:XP l g A c b0 w6 s5 (.string nm) (.slice none 0 0) none 0 []:=⟨hX6,aR.nil _ _ _ _ _,hb0▸hX6.lt,by omega⟩
 have HP6:=hj_ hP6 (HX5.out.2.then_ hs6)
 have HB0:=hid hb0
 rw [hw6]
 clear hs6 hX6 hP6 hw6 hb0 q0 q1 q2 q3 q4 q5 fz3 hgl
 go_loopg [] 8 (fun k wr=>∃f ps s' B b,XP l g A c b0 wr s' (.string nm) (.slice none 0 0) B b ps∧f<k∧ps.length≤4∧(s'.bad=0→oO l f ps s'=(PP,s7)∧f+ps.length=6)∧(s'.bad≠0→s'=s7)∧gG s5 s'∧Same [g] w6 wr)
 case atStart=>exact ⟨6,[],s5,none,0,HP6.out.1,by omega,by simp,fun _=>⟨HS.out.2.2.1,rfl⟩,fun hc=>by
  have h:=HS.out.2.2.1
  rw [uD (Mo hc)] at h
  exact (Prod.mk.inj h).2,.refl,Same.refl _ _⟩
 case round=>
  obtain ⟨f,ps,s',B,b,hX,hfk,hl4,hok,hbd,hct,hSm⟩:=hrel
  obtain ⟨gk,rfl⟩:=pk_ gk 1 (by omega)
  have HX:=hk_ hX hct hSm
  have HI:=hid (kT T hX.rdr fB (by decide))
  rw [Gl S] at HI
  obtain ⟨q,hq⟩:=nm_ (dN l fB s')
  rw [hq] at HI
  cases q with
  | true=>
   obtain ⟨hb,hmp⟩:=Kb hq
   obtain ⟨hans,hf6⟩:=hok hb
   obtain ⟨j,rfl⟩:=pk_ f 1 (by omega)
   obtain ⟨x,hx⟩:=nm_ (if ps.length=4 then ((⟨⟨#[]⟩,0,false⟩:oF),bB 2 s') else yX l (ps.map (·.name)) (bC l fB s'))
   have hstep:(x.2.bad=0→oO l j (ps++[x.1]) x.2=(PP,s7)∧ps.length<4)∧(x.2.bad≠0→x.2=s7)∧gG s' x.2:=by
    rw [oO,M_ hq] at hans
    by_cases h4:ps.length=4
    ·rw [M_ h4] at hans hx
     rw [←hx]
     exact ⟨fun hc=>absurd hc (cK (by decide) _),fun _=>(Prod.mk.inj hans).2,sZ (by decide)⟩
    ·rw [K_ h4] at hans hx
     rw [hmp] at hx
     rw [hx] at hans
     refine ⟨fun _=>⟨hans,by omega⟩,fun hc=>?_,?_⟩
     ·rw [uD (Mo hc)] at hans
      exact (Prod.mk.inj hans).2
     ·have h1:=Up (l:=l) (s:=fQ s') (ps.map (·.name))
      rw [hx] at h1
      exact fun hc=>⟨hb,(h1 hc).2⟩
   have HPR:=hid (fun W (h:XP l g A c b0 W s' (.string nm) (.slice none 0 0) B b ps)=>Jx T h hl4)
   rw [hx] at HPR
   have HSTP:=hj_ hstep hf6
   clear hX hct hSm hok hbd hans hx hstep hq hmp hb hf6
   go_wp2_with fail
   refine HI.out.mono ?_
   rintro e w7 ⟨rfl,hb7⟩
   have HX7:=hid (HX.out.1.step (Same.of_below hb7) (HX.out.1.rdr.step hb7).rd HX.out.1.rdr.inr)
   have HS7:=hid (HX.out.2.2.then_ (Same.of_below hb7))
   clear hb7
   go_wp2_with fail
   refine (HPR.out w7 HX7.out).mono ?_
   rintro e w8 ⟨rfl,B8,b8,ps8,hx8,hok8,hl8,hs8,_⟩
   have hs8':Same [g] w6 w8:=HS7.out.trans hs8 (fun y hy=>by
    rcases List.mem_cons.1 hy with rfl | hy
    ·exact .inl (by simp)
    ·exact .inr (by have:=(HX7.out.rows.blk y (by simpa using hy)).1;have:=HB0.out;omega))
   have H8:=hl_ hx8 hok8 hl8 hs8'
   clear hx8 hok8 hl8 hs8 hs8'
   go_wp2_with fail
   go_roundg gk
   case measure=>omega
   case rel=>
    obtain ⟨⟨g1,g2,g3⟩,g4⟩:=HSTP.out
    refine ⟨j,ps8,x.2,B8,b8,H8.out.1,by omega,H8.out.2.2.1,fun hc=>?_,g2,HX.out.2.1.trans g3,H8.out.2.2.2⟩
    have h1:=H8.out.2.1 hc
    rw [h1]
    exact ⟨(g1 hc).1,by simp;omega⟩
  | false=>
   have hfin:s'=s7∧(s7.bad=0→ps=PP):=by
    by_cases hc:s'.bad=0
    ·have h:=(hok hc).1
     rw [uD hq] at h
     exact ⟨(Prod.mk.inj h).2,fun _=>(Prod.mk.inj h).1⟩
    ·have h:=hbd hc
     exact ⟨h,fun h2=>absurd (h▸h2) hc⟩
   obtain ⟨rfl,hPP⟩:=hfin
   have HPP:=hid hPP
   clear hX hct hSm hok hbd hq hPP
   go_wp2_with fail
   refine HI.out.mono ?_
   rintro e w7 ⟨rfl,hb7⟩
   have HX7:=hid (HX.out.1.step (Same.of_below hb7) (HX.out.1.rdr.step hb7).rd HX.out.1.rdr.inr)
   have HS7:=hid (HX.out.2.2.then_ (Same.of_below hb7))
   clear hb7
   obtain ⟨⟨q0,q1,q2,q3,q4,q5⟩,_,_,_,f5⟩:=iQ HX7.out.rdr.rd
   have hgl:=HX7.out.rdr.lt
   go_upto_region 11 with fail
   obtain ⟨b1,hb1⟩:=nm_ w7.heap.size
   rw [hb1]
   obtain ⟨w8,hw8⟩:=nm_ ((w7.setCell ⟨g,5,none⟩ (.slice (some ⟨b1,0,none⟩) 1 1)).alloc (.cells #[.int .i64 0,.slice none 0 0,.slice none 0 0,.string ⟨#[]⟩,.slice none 0 0,.int .i64 0,.int .i64 0,.string ⟨#[]⟩,.slice none 0 0] 43 (0,0)))
   have hY8:=yI.root HX7.out hb1 (fun hb=>by
    have h1:=HX.out.2.1 hb
    have h2:=HS.out.2.2.2.2.2.2.2.1 h1.1
    rw [h1.2,h2.2]) hw8
   rw [hw8]
   have HY8:=hid hY8
   have hrow8:aO kE (fun k=>k<b0∨b1≤k) w8 B b ps:=(HX7.out.row.more (fun k hk=>hk.imp id (fun h=>by omega))).keep hY8.2 (fun k hk=>by simp at hk;have:=HX7.out.gb;exact .inl (by omega))
   have HRW8:=hid hrow8
   have hbd:=lB T (yL T hl 30) HNO.out HY8.out.1 HS.out.2.2.2.2.2.2.2.2.1 Nat.zero_lt_one
   rw [HS.out.2.2.2.1,show ((0:Nat):Int)=0 from rfl] at hbd
   have HBD:=hid hbd
   have HBW:=hid (fun hb=>(lC (l:=l) (nd:=gK l 30) (s:=s') hb))
   rw [HS.out.2.2.2.1] at HBW
   clear q0 q1 q2 q3 q4 q5 f5 hgl hw8 hY8 hrow8 hbd
   go_wp2_with fail
   refine HBD.out.mono ?_
   rintro e w9 ⟨rfl,B9,n9,b9,qs9,hW⟩
   have hgb:=HX7.out.gb
   have hlo:=HX7.out.lo
   have hbl:∀y,y∈g::bJ (.slice (some ⟨b1,0,none⟩) 1 1) [rQ 0]→y=g∨y=b1:=fun y hy=>by
    simp [bJ,Value.ownBlock,rQ,NQ.kV] at hy
    exact hy
   have hrow9:=HRW8.out.keep hW.same (fun y hy=>(hbl y hy).elim (fun h=>.inl (by omega)) (fun h=>.inr (by omega)))
   have hs3:Same [g] w3 w9:=(((HP6.out.2.trans HS7.out (fun y hy=>.inl hy)).trans HY8.out.2 (fun y hy=>.inl hy))).trans hW.same (fun y hy=>(hbl y hy).elim (fun h=>.inl (by simp [h])) (fun h=>.inr (by
    have h1:=HP6.out.2.size
    have h2:=HB0.out
    omega)))
   have hz9:=hs3.heap (k:=K) (by simp;omega) HW3.out.2
   have hbel:Below w.heap.size w w9:=((Same.of_below (M:=[g]) HW3.out.1).trans hs3 (fun y hy=>.inl hy)).below_of (fun y hy=>by
    have h1:=HK.out
    simp at hy
    omega)
   have HW9:=hm_ hW.st hW.nds hrow9 hbel hz9
   have hin:=hW.st.xn.rdr.inr
   obtain ⟨⟨q0,q1,q2,q3,q4,q5⟩,_⟩:=iQ hW.st.xn.rdr.rd
   have hgl:=hW.st.xn.rdr.lt
   have hrow:=hW.st.xn.rdr.row.2 [] (by simp)
   have hcl:=hW.st.xn.rdr.row.1
   obtain ⟨k,hk0⟩:=r_ hin.1
   have hk:k<l.length:=by have:=hin.2.1;omega
   obtain ⟨ad,rfl⟩:=mR hrow (by omega)
   obtain ⟨x0,x1,x2,x3⟩:=lH hrow k hk
   have hlt:=N_ _ _ x0
   have htk:=tP hk
   rw [←hk0] at htk
   have hkz:(k:Int)<l.length:=by omega
   have hkn:(0:Int)≤k:=by omega
   have hlm:=hrow.1
   obtain ⟨t,ht⟩:=nm_ (l[k])
   have HT:=hid (htk.trans ht)
   have HL:=hj_ hk0 ht
   rw [ht] at x0 x3
   rw [hk0] at q1
   clear hW hrow9 hs3 hz9 hbel hin hrow htk ht x1 x2
   by_cases hb8:s8.bad=0
   ·by_cases hkd:t.kind=0
    ·have hkb:(t.kind != 0)=false:=by rw [hkd];rfl
     have h9:s8=s9:=by rw [←HS.out.2.2.2.2.2.2.2.2.2,K_ (fun hc=>hc.2 (by rw [HT.out];exact hkd))]
     have HQ:=hj_ h9 hb8
     have hPP:=HPP.out (HBW.out hb8)
     subst hPP
     obtain ⟨⟨z0,z1,z2⟩,e0,e1,e2⟩:=bH HW9.out.2.2.2.2
     have hKl:=aC HW9.out.2.2.2.2
     rw [hb8] at q2
     clear h9 hb8 hkd
     go_wp2_with fail
     refine L_ (v:=.tuple #[.agg #[.string nm,.slice B ps.length b,.slice B9 n9 b9],.int .i64 0,.int .i64 0]) (by simp [results,results10,go_sem, *]) rfl ?_
     have hb9:s9.bad=0:=by rw [←HQ.out.1];exact HQ.out.2
     rw [←HANS.out,K_ (by simpa using hb9)]
     have hnl:=HW9.out.2.1 HQ.out.2
     rw [Kc] at hnl
     have hno2:=HW9.out.1.xn.nodes.out (fun k hk=>hk)
     rw [hnl] at hno2
     have hql:n9=(cX 0 (.row 0 [] ks)).length:=by rw [←hnl,U_];exact HW9.out.1.xn.nodes.len.symm
     have hs3:=tX w9 K (.string nm) (.slice B ps.length b) (.slice B9 n9 b9)
     have hKw:=HK.out
     have hw3:=HX3.out.lt
     refine ⟨B,b,B9,b9,by rw [hql],(HW9.out.2.2.1.keep hs3 (fun k hk=>by simp at hk;exact .inl (by omega))).more (fun k hk=>.inl (.inl (by omega))),(hno2.keep hs3 (fun k hk=>by simp at hk;omega)).more (fun k hk=>.inl (by omega)),?_⟩
     exact ((Same.of_below (M:=[K]) HW9.out.2.2.2.1).trans hs3 (fun x hx=>.inl hx)).below_of (fun k hk=>by simp at hk;omega)
    ·have hkb:(t.kind != 0)=true:=kB hkd
     have h9:bB 11 s8=s9:=by rw [←HS.out.2.2.2.2.2.2.2.2.2,M_ ⟨hb8,by rw [HT.out];exact hkd⟩]
     have HQ:=hid h9
     rw [hb8] at q2
     have hat:s9.at_=s8.at_:=by rw [←h9];unfold bB;split <;> rfl
     have HAT:=hid hat
     clear h9 hb8 hkd hat
     go_wp2_with fail
     refine (jF HW9.out.1.xn.rdr 11).mono ?_
     have hin10:=(eQ 11 (by decide) HW9.out.1.xn.rdr.inr).1
     rw [HQ.out] at hin10 ⊢
     rintro e w10 ⟨rfl,hr10,hs10⟩
     have hX10:=HW9.out.1.xn.rdr.next hr10 hs10 (fun k hk=>by simp at hk;omega) hin10
     have hKg10:=hs10.heap (k:=K) (by simp;omega) HW9.out.2.2.2.2
     have hbl10:Below w.heap.size w w10:=((Same.of_below (M:=[g]) HW9.out.2.2.2.1).trans hs10 (fun x hx=>.inl hx)).below_of (fun y hy=>by
      have h1:=HK.out
      simp at hy
      omega)
     have HE:=hid (⟨hX10,hKg10,hbl10,by rw [←HQ.out];exact cK (by decide) _,HAT.out.trans HL.out.1⟩:_∧_∧_∧s9.bad≠0∧s9.at_=(k:Int))
     clear hr10 hs10 hX10 hKg10 hbl10 hin10 q0 q1 q2 q3 q4 q5 hgl x0 x3 hlt hkb
     obtain ⟨⟨q0,q1,q2,q3,q4,q5⟩,_⟩:=iQ HE.out.1.rd
     have hgl:=HE.out.1.lt
     obtain ⟨⟨z0,z1,z2⟩,e0,e1,e2⟩:=bH HE.out.2.1
     have hKl:=aC HE.out.2.1
     have hrow:=HE.out.1.row.2 [] (by simp)
     obtain ⟨x0,x1,x2,x3⟩:=lH hrow k hk
     have hlt:=N_ _ _ x0
     rw [HL.out.2] at x3
     rw [HE.out.2.2.2.2] at q1
     obtain ⟨bd,hbd⟩:=nm_ s9.bad
     have hb9:=HE.out.2.2.2.1
     rw [hbd] at q2 hb9
     have HB9:=hid hbd
     have hbn:(bd != 0)=true:=kB hb9
     clear hrow x0 x1 x2 hbd hb9
     go_wp2_with fail
     go_region
     all_goals
      go_wp2
      refine L_ (v:=.tuple #[.agg #[.string ⟨#[]⟩,.slice none 0 0,.slice none 0 0],.int .i64 bd,.int .i64 t.at_]) (by simp [results,results10,go_sem, *]) rfl ?_
      have h9b:s9.bad≠0:=HE.out.2.2.2.1
      have h9t:aE l s9.at_=t:=by rw [HE.out.2.2.2.2,←HL.out.1];exact HT.out
      rw [←HANS.out,M_ h9b,h9t,HB9.out]
      exact Hc HK.out HE.out.2.2.1 _ _ _
   ·have h9:s8=s9:=by rw [←HS.out.2.2.2.2.2.2.2.2.2,K_ (fun hc=>hb8 hc.1)]
    have hbb:(s8.bad == 0)=false:=aW hb8
    have HE:=hid (⟨h9▸HW9.out.1.xn.rdr,HW9.out.2.2.2.2,HW9.out.2.2.2.1,by rw [←h9];exact hb8,by rw [←h9];exact HL.out.1⟩:_∧_∧_∧s9.bad≠0∧s9.at_=(k:Int))
    have hq2:s8.bad=s9.bad:=by rw [h9]
    rw [hq2] at hbb
    clear h9 hb8 hq2 q0 q1 q2 q3 q4 q5 hgl x0 x3 hlt
    obtain ⟨⟨q0,q1,q2,q3,q4,q5⟩,_⟩:=iQ HE.out.1.rd
    have hgl:=HE.out.1.lt
    obtain ⟨⟨z0,z1,z2⟩,e0,e1,e2⟩:=bH HE.out.2.1
    have hKl:=aC HE.out.2.1
    have hrow:=HE.out.1.row.2 [] (by simp)
    obtain ⟨x0,x1,x2,x3⟩:=lH hrow k hk
    have hlt:=N_ _ _ x0
    rw [HL.out.2] at x3
    rw [HE.out.2.2.2.2] at q1
    obtain ⟨bd,hbd⟩:=nm_ s9.bad
    have hb9:=HE.out.2.2.2.1
    rw [hbd] at q2 hb9 hbb
    have HB9:=hid hbd
    have hbn:(bd != 0)=true:=kB hb9
    clear hrow x0 x1 x2 hbd hb9
    go_wp2_with fail
    go_region
    all_goals
     go_wp2
     refine L_ (v:=.tuple #[.agg #[.string ⟨#[]⟩,.slice none 0 0,.slice none 0 0],.int .i64 bd,.int .i64 t.at_]) (by simp [results,results10,go_sem, *]) rfl ?_
     have h9b:s9.bad≠0:=HE.out.2.2.2.1
     have h9t:aE l s9.at_=t:=by rw [HE.out.2.2.2.2,←HL.out.1];exact HT.out
     rw [←HANS.out,M_ h9b,h9t,HB9.out]
     exact Hc HK.out HE.out.2.2.1 _ _ _
theorem Ko (s w) (hs:s.size≤9223372036854775806):Calls prog 10 #[.string s] w (kR (iF s) w):=by
 by_cases h0:(cI s).2.1=0
 ·exact Hd s w hs h0
 ·have h:=Kn s w hs h0
  have e:iF s=(Dq,(cI s).2.1,(cI s).2.2):=by unfold iF;simp only;rw [M_ h0]
  rw [e]
  exact h
end Go.Proofs.YtgcfjkfipkfijaaGreatDoor
