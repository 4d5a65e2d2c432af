/- Part 34 of the proof of rtrees_card; no conditions. -/
import Derived.Test.YtgcfjkfipkfijaaGreatDoorTr01
import Derived.Test.YtgcfjkfipkfijaaGreatDoorTr33
set_option maxRecDepth 100000
set_option maxHeartbeats 8000000
namespace Go.Proofs.YtgcfjkfipkfijaaGreatDoor
open Go Go.RowKit Go.Lib _root_.Go.Proofs.Tryz
theorem Fs {P l nA nc wB f} (hN:∀x,x∈l→qI x) (hX:∀x,x∈l→Jn x) (hR:aO yS P wB nA nc l) (hK:Xi l nA nc wB f) {m} (hm:m<l.length) (hk4:l[m].kind=4) (hd:(l.length:Int) - m≤f+1) (ind L w) (hi:ind.length+2*(f+1)≤1000) (hL0:0≤L) (hL3:L≤30) (hbw:Below wB.heap.size wB w) :
  Calls prog 72 #[.slice nA l.length nc,.int .i64 m,.string (str ind),.int .i64 L] w fun r w'=>r=.returned (.tuple #[.string (str (nY l (bL l (eK l f)) l[m] m ind L).1),.int .i64 (nY l (bL l (eK l f)) l[m] m ind L).2])∧Below w.heap.size w w':=by
 have HKL:=hid (fun k L (h:0≤L)=>iL (L:=L) hN (f:=f) (k:=k) (ind:=ind++[32,32]) (by simp;omega) h)
 have HKC:=hid (fun (k L:Int) W (h0:(m:Int)<k) (h1:k<l.length) (h2:0≤L) (h3:L≤30) (hW:Below wB.heap.size wB W)=>hK k (ind++[32,32]) L W (by omega) h1 (by omega) (by simp;omega) h2 h3 hW)
 obtain ⟨ad,_,rfl,_,_⟩:=hR.at_ m hm
 obtain ⟨kA,kc,uA,uc,gA,gc,eA,ec,⟨c0,c1,c2,c3,c4,c5,c6,c7,c8⟩,hkr,hur,hgr,her,hbl⟩:=eG hR m hm
 have hlc:=hR.1
 have hml:=(hR.2 [] (by simp)).1
 obtain ⟨x,hx⟩:=nm_ (l[m])
 have hxN:qI x:=hx▸hN _ (g_ hm)
 have hxX:Jn x:=hx▸hX _ (g_ hm)
 rw [hx] at c0 c1 c2 c3 c4 c5 c6 c7 c8 hkr hur hgr her hk4 ⊢
 replace c0:=(hbw.cell (p:=ad.add (m*9)) hbl).trans c0
 replace c1:=(hbw.cell (p:=⟨(ad.add (m*9)).block,(ad.add (m*9)).off+1,none⟩) hbl).trans c1
 replace c2:=(hbw.cell (p:=⟨(ad.add (m*9)).block,(ad.add (m*9)).off+2,none⟩) hbl).trans c2
 replace c3:=(hbw.cell (p:=⟨(ad.add (m*9)).block,(ad.add (m*9)).off+3,none⟩) hbl).trans c3
 replace c4:=(hbw.cell (p:=⟨(ad.add (m*9)).block,(ad.add (m*9)).off+4,none⟩) hbl).trans c4
 replace c5:=(hbw.cell (p:=⟨(ad.add (m*9)).block,(ad.add (m*9)).off+5,none⟩) hbl).trans c5
 replace c6:=(hbw.cell (p:=⟨(ad.add (m*9)).block,(ad.add (m*9)).off+6,none⟩) hbl).trans c6
 replace c7:=(hbw.cell (p:=⟨(ad.add (m*9)).block,(ad.add (m*9)).off+7,none⟩) hbl).trans c7
 replace c8:=(hbw.cell (p:=⟨(ad.add (m*9)).block,(ad.add (m*9)).off+8,none⟩) hbl).trans c8
 replace hbl:=Y_ hbl hbw.size
 have hmz:(m:Int)<l.length:=by omega
 have hm0:(0:Int)≤m:=by omega
 obtain ⟨F,hF⟩:=nm_ (nY l (bL l (eK l f)) x m ind L)
 rw [hF]
 unfold nY at hF
 obtain ⟨xd,xk,xu,xn,xa,xe⟩:=x
 simp only at c0 c1 c2 c3 c4 c5 c6 c7 c8 hk4 hkr her
 subst hk4
 have hex:=hxN.ex
 have hexx:=hxX.ex
 simp only at hex hexx
 have hkl:=hkr.1
 have hkm:=(hkr.2 [] (by simp)).1
 have hpl:=kX hex
 have HPR:=hid (fun W (hW:Below wB.heap.size wB W)=>xS xe eA ec W ((her.2 [] (by simp)).keep (Same.of_below hW)) her.1 hex hexx)
 have H:=hk_ hkr hR hbw
 clear hkr hur hgr her hR hx hxN hxX hN hX hbw hK hex hexx
 go_enter func72,ntmps72
 go_upto_region 2 with fail
 obtain ⟨w2,hw2⟩:=nm_ (w.alloc (.cells #[.int .i64 4,.slice kA xk.length kc,.slice uA xu.length uc,.string xn,.slice gA xa.length gc,.int .i64 xe.op,.int .i64 xe.n,.string xe.name,.slice eA xe.kids.length ec] 43))
 obtain ⟨K,hKK⟩:=nm_ w.heap.size
 have HX:Hid (w2.heap[K]? = some (.cells #[.int .i64 4,.slice kA xk.length kc,.slice uA xu.length uc,.string xn,.slice gA xa.length gc,.int .i64 xe.op,.int .i64 xe.n,.string xe.name,.slice eA xe.kids.length ec] 43 (0,0))∧Below w.heap.size w w2):=hid (by
  rw [←hw2,←hKK];exact ⟨I_ _ _,(J_ _ _).alloc le_ _⟩)
 rw [hw2,hKK]
 have hkl2:=aC HX.out.1
 obtain ⟨b0,b1,b2,b3,b4,b5,b6,b7,b8⟩:=nV HX.out.1
 clear c0 c1 c2 c3 c4 c5 c6 c7 c8 hbl hw2
 have fin:F=([],-1)→∀v,v=Value.tuple #[.string ⟨#[]⟩,.int .i64 (-1)]→(Ending.returned v)=Ending.returned (.tuple #[.string (str F.1),.int .i64 F.2]):=fun h v e=>by rw [e,h];rfl
 by_cases hc1:xk.length≠2
 ·rw [M_ (.inl hc1)] at hF
  have FIN:=hid (fin hF.symm)
  have t1:((xk.length:Int) == 2)=false:=aW (by omega)
  have t2:((xk.length:Int) != 2)=true:=kB (by omega)
  clear hF fin hc1
  go_wp2_with fail
  refine L_ (v:=.tuple #[.string ⟨#[]⟩,.int .i64 (-1)]) (by simp [results,results72,go_sem, *]) rfl ?_
  exact ⟨FIN.out _ rfl,hKK▸HX.out.2⟩
 obtain ⟨a,b,rfl⟩:∃a b,xk=[a,b]:=by
  match xk,(Decidable.not_not.1 hc1:xk.length=2) with
  | [a,b],_=>exact ⟨a,b,rfl⟩
 clear hc1
 obtain ⟨ka,rfl,d0,hdl⟩:=dT (H.out.1.below (H.out.2.2.trans (HX.out.2.mono H.out.2.2.size))) 0 (by show 0<2;decide)
 obtain ⟨ka',e',d1,_⟩:=dT (H.out.1.below (H.out.2.2.trans (HX.out.2.mono H.out.2.2.size))) 1 (by show 1<2;decide)
 injection e' with e'
 subst e'
 have d0:w2.cell? ka=some (.int .i64 a):=d0
 have d1:w2.cell? ⟨ka.block,ka.off+1,none⟩=some (.int .i64 b):=d1
 have b1:w2.cell? ⟨K,1,none⟩=some (.slice (some ka) 2 kc):=b1
 have hk2:(2:Int)≤kc:=by have:[a,b].length≤kc:=hkl;simp at this;omega
 have hF:(if pD ⟨4,[a,b],xu,xn,xa,xe⟩ m l.length L then (([],-1):List UInt8 × Int) else if (bL l (eK l f) a (ind++[32,32]) (L - 2)).2<0 then ([],-1) else (Hj ⟨4,[a,b],xu,xn,xa,xe⟩ ind++(bL l (eK l f) a (ind++[32,32]) (L - 2)).1++Ae l ⟨4,[a,b],xu,xn,xa,xe⟩ ind (bL l (eK l f) b (ind++[32,32]) (bL l (eK l f) a (ind++[32,32]) (L - 2)).2).1++ind++[125,10],(bL l (eK l f) b (ind++[32,32]) (bL l (eK l f) a (ind++[32,32]) (L - 2)).2).2))=F:=hF
 by_cases hc2:L<2
 ·rw [M_ (.inr (.inl hc2))] at hF
  have FIN:=hid (fin hF.symm)
  clear hF fin
  go_wp2_with fail
  refine L_ (v:=.tuple #[.string ⟨#[]⟩,.int .i64 (-1)]) (by simp [results,results72,go_sem, *]) rfl ?_
  exact ⟨FIN.out _ rfl,hKK▸HX.out.2⟩
 by_cases hc3:a≤m
 ·rw [M_ (.inr (.inr (.inl hc3)))] at hF
  have FIN:=hid (fin hF.symm)
  clear hF fin
  go_wp2_with fail
  refine L_ (v:=.tuple #[.string ⟨#[]⟩,.int .i64 (-1)]) (by simp [results,results72,go_sem, *]) rfl ?_
  exact ⟨FIN.out _ rfl,hKK▸HX.out.2⟩
 by_cases hc4:b≤m
 ·rw [M_ (.inr (.inr (.inr (.inl hc4))))] at hF
  have FIN:=hid (fin hF.symm)
  clear hF fin
  go_wp2_with fail
  refine L_ (v:=.tuple #[.string ⟨#[]⟩,.int .i64 (-1)]) (by simp [results,results72,go_sem, *]) rfl ?_
  exact ⟨FIN.out _ rfl,hKK▸HX.out.2⟩
 by_cases hc5:(l.length:Int)≤a
 ·rw [M_ (.inr (.inr (.inr (.inr (.inl hc5)))))] at hF
  have FIN:=hid (fin hF.symm)
  clear hF fin
  go_wp2_with fail
  refine L_ (v:=.tuple #[.string ⟨#[]⟩,.int .i64 (-1)]) (by simp [results,results72,go_sem, *]) rfl ?_
  exact ⟨FIN.out _ rfl,hKK▸HX.out.2⟩
 by_cases hc6:(l.length:Int)≤b
 ·rw [M_ (.inr (.inr (.inr (.inr (.inr hc6)))))] at hF
  have FIN:=hid (fin hF.symm)
  clear hF fin
  go_wp2_with fail
  refine L_ (v:=.tuple #[.string ⟨#[]⟩,.int .i64 (-1)]) (by simp [results,results72,go_sem, *]) rfl ?_
  exact ⟨FIN.out _ rfl,hKK▸HX.out.2⟩
 rw [K_ (by
  rintro (h | h | h | h | h | h)
  ·exact h rfl
  ·exact hc2 h
  ·exact hc3 h
  ·exact hc4 h
  ·exact hc5 h
  ·exact hc6 h)] at hF
 obtain ⟨bn,rfl⟩:∃bn:Nat,b=bn:=⟨b.toNat,by omega⟩
 have hbn:bn<l.length:=by omega
 have hla:=HKL.out a (L - 2) (by omega)
 have HCA:=hid (HKC.out a (L - 2) w2 (by omega) (by omega) (by omega) (by omega) (H.out.2.2.trans (HX.out.2.mono H.out.2.2.size)))
 obtain ⟨⟨at',al⟩,hpa⟩:∃p,bL l (eK l f) a (ind++[32,32]) (L - 2)=p:=⟨_,rfl⟩
 rw [hpa] at hF hla HCA
 simp only at hF HCA
 have hla1:(at'.length:Int)+8589934592*pz al≤0+8589934592*(L - 2):=hla.1
 have hla2:al≤L - 2:=hla.2.1
 have hpz:=Ah al
 obtain ⟨a6,h6⟩:=nm_ (ind++[32,32])
 have HA6:=hid h6
 rw [h6] at HCA hF
 have e6:∀W,(Op.stringOp .add (str ind) ⟨#[32,32]⟩).run prog W=.ok (.string (str a6)) W:=fun W=>by rw [←h6];exact aM ind [32,32] (by simp;omega) W
 have hkaz:(a:Int)<l.length:=by omega
 clear hla hpa h6
 by_cases hal:al<0
 ·rw [M_ hal] at hF
  have FIN:=hid (fin hF.symm)
  clear hF fin
  go_wp2_with fail
  refine HCA.out.mono ?_
  rintro r w4 ⟨rfl,hb4⟩
  have HB4:=hid (HX.out.2.trans (hb4.mono HX.out.2.size))
  clear hb4
  go_wp2_with fail
  refine L_ (v:=.tuple #[.string ⟨#[]⟩,.int .i64 (-1)]) (by simp [results,results72,go_sem, *]) rfl ?_
  exact ⟨FIN.out _ rfl,hKK▸HB4.out⟩
 rw [K_ hal] at hF
 rw [rK (by omega)] at hla1
 have hlb:=HKL.out bn al (by omega)
 have HCB:=hid (fun W (hW:Below wB.heap.size wB W)=>HKC.out bn al W (by omega) (by omega) (by omega) (by omega) hW)
 rw [HA6.out] at hlb HCB
 obtain ⟨⟨bt,bl⟩,hpb⟩:∃p,bL l (eK l f) bn a6 al=p:=⟨_,rfl⟩
 rw [hpb] at hF hlb HCB
 simp only at hF HCB
 have hlb1:(bt.length:Int)+8589934592*pz bl≤0+8589934592*al:=hlb.1
 have hpzb:=Ah bl
 unfold Hj Ae at hF
 have hk1:k1 ⟨4,[a,(bn:Int)],xu,xn,xa,xe⟩=bn:=rfl
 rw [hk1,mZ (by omega) (by omega)] at hF
 simp only [Int.toNat_natCast] at hF
 obtain ⟨pe,hpe⟩:=nm_ (kD xe)
 rw [hpe] at hF hpl
 simp only [hpe] at HPR
 obtain ⟨s1,h1⟩:=nm_ (ind++[105,102,32])
 rw [h1] at hF
 obtain ⟨s2,h2⟩:=nm_ (s1++pe)
 rw [h2] at hF
 obtain ⟨s3,h3⟩:=nm_ (s2++[32,123,10])
 rw [h3] at hF
 obtain ⟨s4,h4⟩:=nm_ (s3++at')
 rw [h4] at hF
 have l1:s1.length=ind.length+3:=by rw [←h1];simp
 have l2:s2.length=s1.length+pe.length:=by rw [←h2];simp
 have l3:s3.length=s2.length+3:=by rw [←h3];simp
 have l4:s4.length=s3.length+at'.length:=by rw [←h4];simp
 have e1:∀W,(Op.stringOp .add (str ind) ⟨#[105,102,32]⟩).run prog W=.ok (.string (str s1)) W:=fun W=>by rw [←h1];exact aM ind [105,102,32] (by simp;omega) W
 have e2:∀W,(Op.stringOp .add (str s1) (str pe)).run prog W=.ok (.string (str s2)) W:=fun W=>by rw [←h2];exact aM s1 pe (by omega) W
 have e3:∀W,(Op.stringOp .add (str s2) ⟨#[32,123,10]⟩).run prog W=.ok (.string (str s3)) W:=fun W=>by rw [←h3];exact aM s2 [32,123,10] (by simp;omega) W
 have e4:∀W,(Op.stringOp .add (str s3) (str at')).run prog W=.ok (.string (str s4)) W:=fun W=>by rw [←h4];exact aM s3 at' (by omega) W
 have hln4:s4.length≤300000000000:=by omega
 have hlnb:bt.length≤300000000000:=by omega
 have hlni:ind.length≤1000:=by omega
 have HF:=hl_ hF hln4 hlnb hlni
 have hbnz:(bn:Int)<l.length:=by omega
 have hbn0:(0:Int)≤bn:=by omega
 clear hF fin h1 h2 h3 h4 l1 l2 l3 l4 hpl hpe hlb hpb hlb1 hpzb hla1 hpz hln4 hlnb hlni
 go_wp2_with fail
 refine HCA.out.mono ?_
 rintro r w4 ⟨rfl,hb4⟩
 have HB4:=hid hb4
 clear b0 b1 b2 b3 b4 b5 b6 b7 b8 d0 d1 hdl
 have hx4:=(HB4.out.block K hkl2).trans HX.out.1
 have HX4:=hid hx4
 have HW4:=hid (H.out.2.2.trans ((HX.out.2.trans (hb4.mono HX.out.2.size)).mono H.out.2.2.size))
 obtain ⟨b0,b1,b2,b3,b4,b5,b6,b7,b8⟩:=nV hx4
 have hkl4:=aC hx4
 obtain ⟨ka',e',d1,hdl⟩:=dT (H.out.1.below HW4.out) 1 (by show 1<2;decide)
 injection e' with e'
 subst e'
 have d1:w4.cell? ⟨ka.block,ka.off+1,none⟩=some (.int .i64 bn):=d1
 have b1:w4.cell? ⟨K,1,none⟩=some (.slice (some ka) 2 kc):=b1
 clear hb4 hx4
 go_wp2_with fail
 refine (HCB.out w4 HW4.out).mono ?_
 rintro r w5 ⟨rfl,hb5⟩
 have HB5:=hid hb5
 clear b0 b1 b2 b3 b4 b5 b6 b7 b8 d1 hdl
 have hx5:=(HB5.out.block K hkl4).trans HX4.out
 have HX5:=hid hx5
 have HW5:=tm_ HW4 hb5
 obtain ⟨b0,b1,b2,b3,b4,b5,b6,b7,b8⟩:=nV hx5
 have hkl5:=aC hx5
 clear hb5 hx5
 go_wp2_with fail
 refine (HPR.out w5 HW5.out).mono ?_
 rintro r w6 ⟨rfl,hb6⟩
 have HB6:=hid hb6
 clear b0 b1 b2 b3 b4 b5 b6 b7 b8
 have hx6:=(HB6.out.block K hkl5).trans HX5.out
 have HX6:=hid hx6
 have HW6:=tm_ HW5 hb6
 have HBB:=hid (((HX.out.2.trans (HB4.out.mono HX.out.2.size)).trans (HB5.out.mono (HX.out.2.trans (HB4.out.mono HX.out.2.size)).size)).trans (HB6.out.mono ((HX.out.2.trans (HB4.out.mono HX.out.2.size)).trans (HB5.out.mono (HX.out.2.trans (HB4.out.mono HX.out.2.size)).size)).size))
 obtain ⟨b0,b1,b2,b3,b4,b5,b6,b7,b8⟩:=nV hx6
 have hkl6:=aC hx6
 obtain ⟨ka',e',d1,hdl⟩:=dT (H.out.1.below HW6.out) 1 (by show 1<2;decide)
 injection e' with e'
 subst e'
 have d1:w6.cell? ⟨ka.block,ka.off+1,none⟩=some (.int .i64 bn):=d1
 have b1:w6.cell? ⟨K,1,none⟩=some (.slice (some ka) 2 kc):=b1
 obtain ⟨yA,yc,_,_,_,_,_,_,⟨_,n1,_⟩,_,_,_,_,hyl⟩:=eG (H.out.2.1.below HW6.out) bn hbn
 obtain ⟨yn,hyn⟩:=nm_ ((l[bn]).kids.length)
 rw [hyn] at n1
 clear hb6 hx6
 have hyi:l[bn].kids=[]↔yn=0:=by rw [←hyn];exact List.length_eq_zero_iff.symm
 by_cases hz:yn=0
 ·have hF:=HF.out.1
  rw [M_ (hyi.2 hz),List.append_nil] at hF
  have hll:=HF.out.2
  obtain ⟨q1,hq1⟩:=nm_ (s4++ind)
  have lq1:q1.length=s4.length+ind.length:=by rw [←hq1,O_]
  obtain ⟨q2,hq2⟩:=nm_ (q1++[125,10])
  rw [hq1,hq2] at hF
  have e7:∀W,(Op.stringOp .add (str s4) (str ind)).run prog W=.ok (.string (str q1)) W:=fun W=>by rw [←hq1];exact aM s4 ind (by omega) W
  have e8:∀W,(Op.stringOp .add (str q1) ⟨#[125,10]⟩).run prog W=.ok (.string (str q2)) W:=fun W=>by rw [←hq2];exact aM q1 [125,10] (by simp;omega) W
  have HFF:=hid hF
  clear hF hyi hyn hq1 hq2 lq1 hll
  subst hz
  go_wp2_with fail
  refine L_ (v:=.tuple #[.string (str q2),.int .i64 bl]) (by simp [results,results72,go_sem, *]) rfl ?_
  exact ⟨by rw [←HFF.out],hKK▸HBB.out⟩
 ·have hF:=HF.out.1
  rw [K_ (fun h=>hz (hyi.1 h))] at hF
  have hll:=HF.out.2
  obtain ⟨q1,hq1⟩:=nm_ (s4++ind)
  have lq1:q1.length=s4.length+ind.length:=by rw [←hq1,O_]
  obtain ⟨q2,hq2⟩:=nm_ (q1++[125,32,101,108,115,101,32,123,10])
  have lq2:q2.length=q1.length+9:=by rw [←hq2];simp
  obtain ⟨q3,hq3⟩:=nm_ (q2++bt)
  have lq3:q3.length=q2.length+bt.length:=by rw [←hq3,O_]
  obtain ⟨q4,hq4⟩:=nm_ (q3++ind)
  have lq4:q4.length=q3.length+ind.length:=by rw [←hq4,O_]
  obtain ⟨q5,hq5⟩:=nm_ (q4++[125,10])
  have e7:∀W,(Op.stringOp .add (str s4) (str ind)).run prog W=.ok (.string (str q1)) W:=fun W=>by rw [←hq1];exact aM s4 ind (by omega) W
  have e8:∀W,(Op.stringOp .add (str q1) ⟨#[125,32,101,108,115,101,32,123,10]⟩).run prog W=.ok (.string (str q2)) W:=fun W=>by rw [←hq2];exact aM q1 [125,32,101,108,115,101,32,123,10] (by simp;omega) W
  have e9:∀W,(Op.stringOp .add (str q2) (str bt)).run prog W=.ok (.string (str q3)) W:=fun W=>by rw [←hq3];exact aM q2 bt (by omega) W
  have e10:∀W,(Op.stringOp .add (str q3) (str ind)).run prog W=.ok (.string (str q4)) W:=fun W=>by rw [←hq4];exact aM q3 ind (by omega) W
  have e11:∀W,(Op.stringOp .add (str q4) ⟨#[125,10]⟩).run prog W=.ok (.string (str q5)) W:=fun W=>by rw [←hq5];exact aM q4 [125,10] (by simp;omega) W
  have hfe:F=(q5,bl):=by rw [←hF,←hq5,←hq4,←hq3,←hq2,←hq1];simp
  have HFF:=hid hfe
  have hzp:(0:Int)<yn:=by omega
  clear hF hyi hyn hq1 hq2 hq3 hq4 hq5 lq1 lq2 lq3 lq4 hfe hll
  go_wp2_with fail
  refine L_ (v:=.tuple #[.string (str q5),.int .i64 bl]) (by simp [results,results72,go_sem, *]) rfl ?_
  exact ⟨by rw [HFF.out],hKK▸HBB.out⟩
theorem Tn {P l nA nc wB f} (hN:∀x,x∈l→qI x) (hX:∀x,x∈l→Jn x) (hR:aO yS P wB nA nc l) (hK:Xi l nA nc wB f):Xh l nA nc wB (f+1):=by
 intro k ind L w h0 hk hd hi hL0 hL3 hbw
 obtain ⟨m,rfl⟩:∃m:Nat,k=m:=⟨k.toNat,by omega⟩
 have hm:m<l.length:=by omega
 have hnd:cE l m=l[m]:=mZ h0 hk
 rw [eK]
 unfold On
 rw [hnd]
 by_cases h3:l[m].kind=3
 ·simp only [M_ h3]
  exact Jo hN hX hR hm h3 ind L w (by omega) hbw
 ·simp only [K_ h3]
  by_cases h4:l[m].kind=4
  ·simp only [M_ h4]
   exact Fs hN hX hR hK hm h4 (by omega) ind L w hi hL0 hL3 hbw
  ·simp only [K_ h4]
   exact Tm hN hX hR hK hm h3 h4 (by omega) ind L w hi hL0 hL3 hbw
theorem Ap {P l nA nc wB} (hN:∀x,x∈l→qI x) (hX:∀x,x∈l→Jn x) (hR:aO yS P wB nA nc l):∀f:Nat,Xh l nA nc wB f
 | 0=>fun k ind L w h0 hk hd=>by omega
 | f+1=>Tn hN hX hR (sX hN hR (Ap hN hX hR f))
end Go.Proofs.YtgcfjkfipkfijaaGreatDoor
