/- Part 8 of the proof of rtrees_card; no conditions. -/
import Derived.Test.YtgcfjkfipkfijaaGreatDoorTr01
import Derived.Test.YtgcfjkfipkfijaaGreatDoorTr07
set_option maxRecDepth 100000
set_option maxHeartbeats 4000000
namespace Go.Proofs.YtgcfjkfipkfijaaGreatDoor
open Go Go.RowKit Go.Lib _root_.Go.Proofs.Tryz
theorem Ht (l g A c first) (hlc:l.length≤c) (hf0:-9223372036854775808≤first) (at_ w) (hb:qM w g A l.length c first ⟨at_,0⟩) (hr:cN.Row [g] w A l) (h1:first≤at_) (h3:at_≤first+64) (hisp:iR l 2 3 ⟨at_,0⟩=none) (n a x) (ht:aE l at_=⟨4,x,n,a⟩) (hx:dK x ⟨#[40]⟩=true) (sp) (hpp:aT first ⟨at_,0⟩=(true,sp)) (lo orr) (hO:cG l g A c first lo 121 orr) (hl1:first≤sp.at_) (hl2:lo≤sp.at_) (hl3:sp.at_≤first+64) (e at2 bad2 k2 n2 a2 x2) (hp2:orr sp=(e,⟨at2,bad2⟩)) (ht2:aE l at2=⟨k2,x2,n2,a2⟩) (hlo2:first≤at2) (hhi2:at2≤first+64) (h0:bad2≠0) :
  Calls prog 173 #[.pointer (some ⟨g,0,none⟩)] w (eO g A l.length c first (e,⟨at2,bad2⟩) w):=by
 have HR:=hid hr
 have hg:=aC hb
 obtain ⟨wr,hw2,hb2,q5⟩:=alo_ w (.cells #[.int .i64 0,.int .i64 0,.string ⟨#[]⟩,.slice none 0 0] 41 (0,0))
 have q3:=hb.same hb2
 have q4:Same [g] w wr:=Same.of_below hb2
 obtain ⟨K8,hK8⟩:=nm_ w.heap.size
 have HIS:=eL l g A c first ⟨at_,0⟩ wr q3 (HR.out.keep q4) hlc 2 3 (by omega) (by omega) (by omega)
 rw [hK8] at q5
 have Q:=hk_ q3 q4 q5
 rw [hisp] at HIS
 have HHIS:=hid HIS
 have HW2:=hj_ hw2 hK8
 have HT:=hid ht
 have hmx:=hr.1
 clear HIS q3 q4 q5 hb2 hw2 hK8 hb hr hisp ht
 have hxb:(x.toList == [40])=true:=by rw [Lib.toList_data];exact hx
 have hnb:(bad2 != 0)=true:=B_ h0
 have hbb:(bad2 == 0)=false:=A_ h0
 have HO:=hid hO
 clear hO
 go_enter func173,ntmps173
 go_wp2_with (rw [HW2.out.1,HW2.out.2];refine HHIS.out.mono ?_;rintro r w3 ⟨rfl,hb3⟩;have HB3:=hid hb3;clear hb3)
 refine (bT l g A c first ⟨at_,0⟩ w3 (Q.out.1.same HB3.out) ((HR.out.keep Q.out.2.1).keep (Same.of_below HB3.out)) hlc).mono ?_
 rw [show aE l (St.mk at_ 0).at_=⟨4,x,n,a⟩ from HT.out]
 rintro r w4 ⟨rfl,hb4⟩
 obtain ⟨w5,hw5⟩:=nm_ (w4.alloc (.cells #[.int .i64 4,.string x,.int .i64 n,.int .i64 a] 60 (0,0)))
 have hb35:Below w3.heap.size w3 w5:=hb4.trans (hw5▸(J_ _ _).alloc hb4.size _)
 have hb5:Below wr.heap.size wr w5:=HB3.out.trans (hb35.mono HB3.out.size)
 have ht5:w5.heap[w4.heap.size]? = some (.cells #[.int .i64 4,.string x,.int .i64 n,.int .i64 a] 60 (0,0)):=hw5▸I_ _ _
 have hrd5:=Q.out.1.same hb5
 have hz5:=bp_ hb5 Q.out.2.2
 obtain ⟨⟨t0,t1,t2,t3⟩,_⟩:=aK ht5
 obtain ⟨⟨_,_,_,r3⟩,_⟩:=aK hrd5
 obtain ⟨⟨z0,z1,z2,z3⟩,f0,f1,f2,f3⟩:=aK hz5
 have hgt:g<w4.heap.size:=by have h1:=hb4.size;have h2:=HB3.out.size;have h3:=aC Q.out.1;omega
 have H5:=hm_ hrd5 hz5 ht5 (Q.out.2.1.below_ hb5) HW2.out.2
 have HW5:=hid hw5
 obtain ⟨Kt,hKt⟩:=nm_ w4.heap.size
 rw [hKt] at t0 t1 t2 t3 H5 hgt
 have HKt:=hid hKt
 clear hb35 hb5 hb4 hrd5 hz5 ht5 hw5 hKt
 go_wp2_with (rw [HW5.out,HKt.out])
 have hin:=(fS (l:=l) (i:=at_) (by rw [HT.out];show (4:Int)≠0;decide)).2
 refine (cW g A l.length c first ⟨at_,0⟩ w5 H5.out.1 h1 h3 (by show at_<_;omega) hf0).mono ?_
 rw [hpp]
 rintro r w6 ⟨rfl,hrd6,hs6⟩
 have hK8:=H5.out.2.2.2.2
 obtain ⟨⟨y0,y1,y2,y3⟩,g0,g1,g2,g3⟩:=aK (hs6.heap (by simp;omega) H5.out.2.1)
 obtain ⟨⟨u0,u1,u2,u3⟩,_⟩:=aK (hs6.heap (k:=Kt) (by simp;omega) H5.out.2.2.1)
 have H6:=hj_ hrd6 hs6
 have HK8:=hid hK8
 clear hrd6 hs6 hK8
 go_wp2_with fail
 have HS6:=hid (H5.out.2.2.2.1.then_ H6.out.2)
 refine (HO.out sp w6 H6.out.1 (HR.out.keep HS6.out) (by omega) (by omega) (by omega)).mono ?_
 rw [hp2]
 rintro r w7 ⟨B,d,rfl,hx7,hrd7,hs7⟩
 simp only at hx7 hrd7
 obtain ⟨w8,hw8,hb78,he8⟩:=alo_ w7 (.cells #[.int .i64 e.op,.int .i64 e.n,.string e.name,.slice B e.kids.length d] 41 (0,0))
 have hs58:Same [g] w5 w8:=(H6.out.2.then_ hs7).below_ hb78
 have hk58:=HK8.out
 have hz8:=hs58.heap (k:=K8) (by simp;omega) H5.out.2.1
 have hg7:g<w7.heap.size:=aC hrd7
 have hk7:K8<w7.heap.size:=aC ((H6.out.2.then_ hs7).heap (k:=K8) (by simp;omega) H5.out.2.1)
 have hx8:cR (fun k=>k≤K8) w8 e B d:=(hx7.more (Q:=fun k=>k≤K8) (fun k hk=>.inl (Nat.lt_of_le_of_lt hk (aC (H6.out.2.heap (k:=K8) (by simp;omega) H5.out.2.1))))).below hb78
 have H8:=hm_ (hrd7.same hb78) hz8 he8 hx8 ((HS6.out.then_ hs7).below_ hb78)
 have hg8:g≠K8:=by omega
 obtain ⟨Ke,hKe⟩:=nm_ w7.heap.size
 rw [hKe] at H8 hg7 hk7
 have HW8:=hj_ hw8 hKe
 clear hx7 hrd7 hs7 hb78 he8 hs58 hz8 hx8 hw8 hKe y0 y1 y2 y3 g0 g1 g2 g3 u0 u1 u2 u3 z0 z1 z2 z3 f0 f1 f2 f3 t0 t1 t2 t3 r3 hk58
 go_wp2_with (rw [HW8.out.1,HW8.out.2])
 refine (bT l g A c first ⟨at2,bad2⟩ w8 H8.out.1 (HR.out.keep H8.out.2.2.2.2) hlc).mono ?_
 rw [show aE l (St.mk at2 bad2).at_=⟨k2,x2,n2,a2⟩ from ht2]
 rintro r w9 ⟨rfl,hb9⟩
 obtain ⟨w10,hw10⟩:=nm_ (w9.alloc (.cells #[.int .i64 k2,.string x2,.int .i64 n2,.int .i64 a2] 60 (0,0)))
 have hb10:Below w8.heap.size w8 w10:=hb9.trans (hw10▸(J_ _ _).alloc hb9.size _)
 have ht10:w10.heap[w9.heap.size]? = some (.cells #[.int .i64 k2,.string x2,.int .i64 n2,.int .i64 a2] 60 (0,0)):=hw10▸I_ _ _
 have hrd10:=H8.out.1.same hb10
 have hz10:=bp_ hb10 H8.out.2.1
 have he10:=bp_ hb10 H8.out.2.2.1
 obtain ⟨⟨t0,t1,t2,t3⟩,_⟩:=aK ht10
 obtain ⟨⟨_,_,_,r3⟩,_⟩:=aK hrd10
 obtain ⟨⟨z0,z1,z2,z3⟩,f0,f1,f2,f3⟩:=aK hz10
 obtain ⟨⟨v0,v1,v2,v3⟩,_⟩:=aK he10
 have H10:=hm_ hrd10 hz10 he10 (H8.out.2.2.2.1.below hb10) (H8.out.2.2.2.2.below_ hb10)
 have HW10:=hid hw10
 clear hb9 hb10 ht10 hrd10 hz10 he10 hw10
 go_wp2_with (rw [HW10.out])
 have _u:=(⟨hlo2,hhi2⟩:_∧_)
 clear _u hlo2 hhi2
 refine L_ (v:=eJ e B d) (by simp [results,results173,go_sem, *]) rfl ?_
 have hK8:=HK8.out
 exact dV (P:=fun k=>k≤K8) (fun k hk=>by show k≤K8;omega) le_ H10.out.2.2.2.1 H10.out.1 H10.out.2.2.2.2 (by omega) hg _ _ _ _
theorem Ri (l g A c first) (hlc:l.length≤c) (hf0:-9223372036854775808≤first) (at_ w) (hb:qM w g A l.length c first ⟨at_,0⟩) (hr:cN.Row [g] w A l) (h1:first≤at_) (h3:at_≤first+64) (hisp:iR l 2 3 ⟨at_,0⟩=none) (n a x) (ht:aE l at_=⟨4,x,n,a⟩) (hx:dK x ⟨#[40]⟩=true) (sp) (hpp:aT first ⟨at_,0⟩=(true,sp)) (lo orr) (hO:cG l g A c first lo 121 orr) (hl1:first≤sp.at_) (hl2:lo≤sp.at_) (hl3:sp.at_≤first+64) (e at2 k2 n2 a2 x2) (hp2:orr sp=(e,⟨at2,0⟩)) (ht2:aE l at2=⟨k2,x2,n2,a2⟩) (hlo2:first≤at2) (hhi2:at2≤first+64) (h4:k2≠4) :
  Calls prog 173 #[.pointer (some ⟨g,0,none⟩)] w (eO g A l.length c first (eD,dL 11 ⟨at2,0⟩) w):=by
 have HR:=hid hr
 have hg:=aC hb
 obtain ⟨wr,hw2,hb2,q5⟩:=alo_ w (.cells #[.int .i64 0,.int .i64 0,.string ⟨#[]⟩,.slice none 0 0] 41 (0,0))
 have q3:=hb.same hb2
 have q4:Same [g] w wr:=Same.of_below hb2
 obtain ⟨K8,hK8⟩:=nm_ w.heap.size
 have HIS:=eL l g A c first ⟨at_,0⟩ wr q3 (HR.out.keep q4) hlc 2 3 (by omega) (by omega) (by omega)
 rw [hK8] at q5
 have Q:=hk_ q3 q4 q5
 rw [hisp] at HIS
 have HHIS:=hid HIS
 have HW2:=hj_ hw2 hK8
 have HT:=hid ht
 have hmx:=hr.1
 clear HIS q3 q4 q5 hb2 hw2 hK8 hb hr hisp ht
 have hxb:(x.toList == [40])=true:=by rw [Lib.toList_data];exact hx
 have hnk:(k2 != 4)=true:=B_ h4
 have hk4:(k2 == 4)=false:=A_ h4
 have HO:=hid hO
 clear hO
 go_enter func173,ntmps173
 go_wp2_with (rw [HW2.out.1,HW2.out.2];refine HHIS.out.mono ?_;rintro r w3 ⟨rfl,hb3⟩;have HB3:=hid hb3;clear hb3)
 refine (bT l g A c first ⟨at_,0⟩ w3 (Q.out.1.same HB3.out) ((HR.out.keep Q.out.2.1).keep (Same.of_below HB3.out)) hlc).mono ?_
 rw [show aE l (St.mk at_ 0).at_=⟨4,x,n,a⟩ from HT.out]
 rintro r w4 ⟨rfl,hb4⟩
 obtain ⟨w5,hw5⟩:=nm_ (w4.alloc (.cells #[.int .i64 4,.string x,.int .i64 n,.int .i64 a] 60 (0,0)))
 have hb35:Below w3.heap.size w3 w5:=hb4.trans (hw5▸(J_ _ _).alloc hb4.size _)
 have hb5:Below wr.heap.size wr w5:=HB3.out.trans (hb35.mono HB3.out.size)
 have ht5:w5.heap[w4.heap.size]? = some (.cells #[.int .i64 4,.string x,.int .i64 n,.int .i64 a] 60 (0,0)):=hw5▸I_ _ _
 have hrd5:=Q.out.1.same hb5
 have hz5:=bp_ hb5 Q.out.2.2
 obtain ⟨⟨t0,t1,t2,t3⟩,_⟩:=aK ht5
 obtain ⟨⟨_,_,_,r3⟩,_⟩:=aK hrd5
 obtain ⟨⟨z0,z1,z2,z3⟩,f0,f1,f2,f3⟩:=aK hz5
 have hgt:g<w4.heap.size:=by have h1:=hb4.size;have h2:=HB3.out.size;have h3:=aC Q.out.1;omega
 have H5:=hm_ hrd5 hz5 ht5 (Q.out.2.1.below_ hb5) HW2.out.2
 have HW5:=hid hw5
 obtain ⟨Kt,hKt⟩:=nm_ w4.heap.size
 rw [hKt] at t0 t1 t2 t3 H5 hgt
 have HKt:=hid hKt
 clear hb35 hb5 hb4 hrd5 hz5 ht5 hw5 hKt
 go_wp2_with (rw [HW5.out,HKt.out])
 have hin:=(fS (l:=l) (i:=at_) (by rw [HT.out];show (4:Int)≠0;decide)).2
 refine (cW g A l.length c first ⟨at_,0⟩ w5 H5.out.1 h1 h3 (by show at_<_;omega) hf0).mono ?_
 rw [hpp]
 rintro r w6 ⟨rfl,hrd6,hs6⟩
 have hK8:=H5.out.2.2.2.2
 obtain ⟨⟨y0,y1,y2,y3⟩,g0,g1,g2,g3⟩:=aK (hs6.heap (by simp;omega) H5.out.2.1)
 obtain ⟨⟨u0,u1,u2,u3⟩,_⟩:=aK (hs6.heap (k:=Kt) (by simp;omega) H5.out.2.2.1)
 have H6:=hj_ hrd6 hs6
 have HK8:=hid hK8
 clear hrd6 hs6 hK8
 go_wp2_with fail
 have HS6:=hid (H5.out.2.2.2.1.then_ H6.out.2)
 refine (HO.out sp w6 H6.out.1 (HR.out.keep HS6.out) (by omega) (by omega) (by omega)).mono ?_
 rw [hp2]
 rintro r w7 ⟨B,d,rfl,hx7,hrd7,hs7⟩
 simp only at hx7 hrd7
 obtain ⟨w8,hw8,hb78,he8⟩:=alo_ w7 (.cells #[.int .i64 e.op,.int .i64 e.n,.string e.name,.slice B e.kids.length d] 41 (0,0))
 have hs58:Same [g] w5 w8:=(H6.out.2.then_ hs7).below_ hb78
 have hk58:=HK8.out
 have hz8:=hs58.heap (k:=K8) (by simp;omega) H5.out.2.1
 have hg7:g<w7.heap.size:=aC hrd7
 have hk7:K8<w7.heap.size:=aC ((H6.out.2.then_ hs7).heap (k:=K8) (by simp;omega) H5.out.2.1)
 have hx8:cR (fun k=>k≤K8) w8 e B d:=(hx7.more (Q:=fun k=>k≤K8) (fun k hk=>.inl (Nat.lt_of_le_of_lt hk (aC (H6.out.2.heap (k:=K8) (by simp;omega) H5.out.2.1))))).below hb78
 have H8:=hm_ (hrd7.same hb78) hz8 he8 hx8 ((HS6.out.then_ hs7).below_ hb78)
 have hg8:g≠K8:=by omega
 obtain ⟨Ke,hKe⟩:=nm_ w7.heap.size
 rw [hKe] at H8 hg7 hk7
 have HW8:=hj_ hw8 hKe
 clear hx7 hrd7 hs7 hb78 he8 hs58 hz8 hx8 hw8 hKe y0 y1 y2 y3 g0 g1 g2 g3 u0 u1 u2 u3 z0 z1 z2 z3 f0 f1 f2 f3 t0 t1 t2 t3 r3 hk58
 go_wp2_with (rw [HW8.out.1,HW8.out.2])
 refine (bT l g A c first ⟨at2,0⟩ w8 H8.out.1 (HR.out.keep H8.out.2.2.2.2) hlc).mono ?_
 rw [show aE l (St.mk at2 0).at_=⟨k2,x2,n2,a2⟩ from ht2]
 rintro r w9 ⟨rfl,hb9⟩
 obtain ⟨w10,hw10⟩:=nm_ (w9.alloc (.cells #[.int .i64 k2,.string x2,.int .i64 n2,.int .i64 a2] 60 (0,0)))
 have hb10:Below w8.heap.size w8 w10:=hb9.trans (hw10▸(J_ _ _).alloc hb9.size _)
 have ht10:w10.heap[w9.heap.size]? = some (.cells #[.int .i64 k2,.string x2,.int .i64 n2,.int .i64 a2] 60 (0,0)):=hw10▸I_ _ _
 have hrd10:=H8.out.1.same hb10
 have hz10:=bp_ hb10 H8.out.2.1
 have he10:=bp_ hb10 H8.out.2.2.1
 obtain ⟨⟨t0,t1,t2,t3⟩,_⟩:=aK ht10
 obtain ⟨⟨_,_,_,r3⟩,_⟩:=aK hrd10
 obtain ⟨⟨z0,z1,z2,z3⟩,f0,f1,f2,f3⟩:=aK hz10
 obtain ⟨⟨v0,v1,v2,v3⟩,_⟩:=aK he10
 have H10:=hm_ hrd10 hz10 he10 (H8.out.2.2.2.1.below hb10) (H8.out.2.2.2.2.below_ hb10)
 have HW10:=hid hw10
 clear hb9 hb10 ht10 hrd10 hz10 he10 hw10
 go_wp2_with (rw [HW10.out])
 have _u:=(⟨hlo2,hhi2⟩:_∧_)
 clear _u hlo2 hhi2
 refine (lI g A l.length c first ⟨at2,0⟩ w10 H10.out.1 11).mono ?_
 rintro r w11 ⟨rfl,hrd11,hs11⟩
 obtain ⟨⟨y0,y1,y2,y3⟩,g0,g1,g2,g3⟩:=aK (hs11.heap (by simp;omega) H10.out.2.1)
 have H11:=hj_ hrd11 hs11
 clear hrd11 hs11
 go_wp2_with fail
 refine L_ (v:=eJ eD none 0) (by simp [results,results173,go_sem, *] <;> exact ⟨rfl,rfl,rfl,rfl⟩) rfl ?_
 have hK8:=HK8.out
 exact dV (P:=fun k=>k≤K8) (fun k hk=>by show k≤K8;omega) le_ (cR.leaf rfl) H11.out.1 (H10.out.2.2.2.2.then_ H11.out.2) (by omega) hg _ _ _ _
theorem Rj (l g A c first) (hlc:l.length≤c) (hf0:-9223372036854775808≤first) (at_ w) (hb:qM w g A l.length c first ⟨at_,0⟩) (hr:cN.Row [g] w A l) (h1:first≤at_) (h3:at_≤first+64) (hisp:iR l 2 3 ⟨at_,0⟩=none) (n a x) (ht:aE l at_=⟨4,x,n,a⟩) (hx:dK x ⟨#[40]⟩=true) (sp) (hpp:aT first ⟨at_,0⟩=(true,sp)) (lo orr) (hO:cG l g A c first lo 121 orr) (hl1:first≤sp.at_) (hl2:lo≤sp.at_) (hl3:sp.at_≤first+64) (e at2 n2 a2 x2) (hp2:orr sp=(e,⟨at2,0⟩)) (ht2:aE l at2=⟨4,x2,n2,a2⟩) (hlo2:first≤at2) (hhi2:at2≤first+64) (hx2:dK x2 ⟨#[41]⟩=false) :
  Calls prog 173 #[.pointer (some ⟨g,0,none⟩)] w (eO g A l.length c first (eD,dL 11 ⟨at2,0⟩) w):=by
 have HR:=hid hr
 have hg:=aC hb
 obtain ⟨wr,hw2,hb2,q5⟩:=alo_ w (.cells #[.int .i64 0,.int .i64 0,.string ⟨#[]⟩,.slice none 0 0] 41 (0,0))
 have q3:=hb.same hb2
 have q4:Same [g] w wr:=Same.of_below hb2
 obtain ⟨K8,hK8⟩:=nm_ w.heap.size
 have HIS:=eL l g A c first ⟨at_,0⟩ wr q3 (HR.out.keep q4) hlc 2 3 (by omega) (by omega) (by omega)
 rw [hK8] at q5
 have Q:=hk_ q3 q4 q5
 rw [hisp] at HIS
 have HHIS:=hid HIS
 have HW2:=hj_ hw2 hK8
 have HT:=hid ht
 have hmx:=hr.1
 clear HIS q3 q4 q5 hb2 hw2 hK8 hb hr hisp ht
 have hxb:(x.toList == [40])=true:=by rw [Lib.toList_data];exact hx
 have hxb2:(x2.toList == [41])=false:=by rw [Lib.toList_data];exact hx2
 have hxn2:(x2.toList != [41])=true:=by simp only [bne,hxb2];rfl
 have HO:=hid hO
 clear hO
 go_enter func173,ntmps173
 go_wp2_with (rw [HW2.out.1,HW2.out.2];refine HHIS.out.mono ?_;rintro r w3 ⟨rfl,hb3⟩;have HB3:=hid hb3;clear hb3)
 refine (bT l g A c first ⟨at_,0⟩ w3 (Q.out.1.same HB3.out) ((HR.out.keep Q.out.2.1).keep (Same.of_below HB3.out)) hlc).mono ?_
 rw [show aE l (St.mk at_ 0).at_=⟨4,x,n,a⟩ from HT.out]
 rintro r w4 ⟨rfl,hb4⟩
 obtain ⟨w5,hw5⟩:=nm_ (w4.alloc (.cells #[.int .i64 4,.string x,.int .i64 n,.int .i64 a] 60 (0,0)))
 have hb35:Below w3.heap.size w3 w5:=hb4.trans (hw5▸(J_ _ _).alloc hb4.size _)
 have hb5:Below wr.heap.size wr w5:=HB3.out.trans (hb35.mono HB3.out.size)
 have ht5:w5.heap[w4.heap.size]? = some (.cells #[.int .i64 4,.string x,.int .i64 n,.int .i64 a] 60 (0,0)):=hw5▸I_ _ _
 have hrd5:=Q.out.1.same hb5
 have hz5:=bp_ hb5 Q.out.2.2
 obtain ⟨⟨t0,t1,t2,t3⟩,_⟩:=aK ht5
 obtain ⟨⟨_,_,_,r3⟩,_⟩:=aK hrd5
 obtain ⟨⟨z0,z1,z2,z3⟩,f0,f1,f2,f3⟩:=aK hz5
 have hgt:g<w4.heap.size:=by have h1:=hb4.size;have h2:=HB3.out.size;have h3:=aC Q.out.1;omega
 have H5:=hm_ hrd5 hz5 ht5 (Q.out.2.1.below_ hb5) HW2.out.2
 have HW5:=hid hw5
 obtain ⟨Kt,hKt⟩:=nm_ w4.heap.size
 rw [hKt] at t0 t1 t2 t3 H5 hgt
 have HKt:=hid hKt
 clear hb35 hb5 hb4 hrd5 hz5 ht5 hw5 hKt
 go_wp2_with (rw [HW5.out,HKt.out])
 have hin:=(fS (l:=l) (i:=at_) (by rw [HT.out];show (4:Int)≠0;decide)).2
 refine (cW g A l.length c first ⟨at_,0⟩ w5 H5.out.1 h1 h3 (by show at_<_;omega) hf0).mono ?_
 rw [hpp]
 rintro r w6 ⟨rfl,hrd6,hs6⟩
 have hK8:=H5.out.2.2.2.2
 obtain ⟨⟨y0,y1,y2,y3⟩,g0,g1,g2,g3⟩:=aK (hs6.heap (by simp;omega) H5.out.2.1)
 obtain ⟨⟨u0,u1,u2,u3⟩,_⟩:=aK (hs6.heap (k:=Kt) (by simp;omega) H5.out.2.2.1)
 have H6:=hj_ hrd6 hs6
 have HK8:=hid hK8
 clear hrd6 hs6 hK8
 go_wp2_with fail
 have HS6:=hid (H5.out.2.2.2.1.then_ H6.out.2)
 refine (HO.out sp w6 H6.out.1 (HR.out.keep HS6.out) (by omega) (by omega) (by omega)).mono ?_
 rw [hp2]
 rintro r w7 ⟨B,d,rfl,hx7,hrd7,hs7⟩
 simp only at hx7 hrd7
 obtain ⟨w8,hw8,hb78,he8⟩:=alo_ w7 (.cells #[.int .i64 e.op,.int .i64 e.n,.string e.name,.slice B e.kids.length d] 41 (0,0))
 have hs58:Same [g] w5 w8:=(H6.out.2.then_ hs7).below_ hb78
 have hk58:=HK8.out
 have hz8:=hs58.heap (k:=K8) (by simp;omega) H5.out.2.1
 have hg7:g<w7.heap.size:=aC hrd7
 have hk7:K8<w7.heap.size:=aC ((H6.out.2.then_ hs7).heap (k:=K8) (by simp;omega) H5.out.2.1)
 have hx8:cR (fun k=>k≤K8) w8 e B d:=(hx7.more (Q:=fun k=>k≤K8) (fun k hk=>.inl (Nat.lt_of_le_of_lt hk (aC (H6.out.2.heap (k:=K8) (by simp;omega) H5.out.2.1))))).below hb78
 have H8:=hm_ (hrd7.same hb78) hz8 he8 hx8 ((HS6.out.then_ hs7).below_ hb78)
 have hg8:g≠K8:=by omega
 obtain ⟨Ke,hKe⟩:=nm_ w7.heap.size
 rw [hKe] at H8 hg7 hk7
 have HW8:=hj_ hw8 hKe
 clear hx7 hrd7 hs7 hb78 he8 hs58 hz8 hx8 hw8 hKe y0 y1 y2 y3 g0 g1 g2 g3 u0 u1 u2 u3 z0 z1 z2 z3 f0 f1 f2 f3 t0 t1 t2 t3 r3 hk58
 go_wp2_with (rw [HW8.out.1,HW8.out.2])
 refine (bT l g A c first ⟨at2,0⟩ w8 H8.out.1 (HR.out.keep H8.out.2.2.2.2) hlc).mono ?_
 rw [show aE l (St.mk at2 0).at_=⟨4,x2,n2,a2⟩ from ht2]
 rintro r w9 ⟨rfl,hb9⟩
 obtain ⟨w10,hw10⟩:=nm_ (w9.alloc (.cells #[.int .i64 4,.string x2,.int .i64 n2,.int .i64 a2] 60 (0,0)))
 have hb10:Below w8.heap.size w8 w10:=hb9.trans (hw10▸(J_ _ _).alloc hb9.size _)
 have ht10:w10.heap[w9.heap.size]? = some (.cells #[.int .i64 4,.string x2,.int .i64 n2,.int .i64 a2] 60 (0,0)):=hw10▸I_ _ _
 have hrd10:=H8.out.1.same hb10
 have hz10:=bp_ hb10 H8.out.2.1
 have he10:=bp_ hb10 H8.out.2.2.1
 obtain ⟨⟨t0,t1,t2,t3⟩,_⟩:=aK ht10
 obtain ⟨⟨_,_,_,r3⟩,_⟩:=aK hrd10
 obtain ⟨⟨z0,z1,z2,z3⟩,f0,f1,f2,f3⟩:=aK hz10
 obtain ⟨⟨v0,v1,v2,v3⟩,_⟩:=aK he10
 have H10:=hm_ hrd10 hz10 he10 (H8.out.2.2.2.1.below hb10) (H8.out.2.2.2.2.below_ hb10)
 have HW10:=hid hw10
 clear hb9 hb10 ht10 hrd10 hz10 he10 hw10
 go_wp2_with (rw [HW10.out])
 have _u:=(⟨hlo2,hhi2⟩:_∧_)
 clear _u hlo2 hhi2
 refine (lI g A l.length c first ⟨at2,0⟩ w10 H10.out.1 11).mono ?_
 rintro r w11 ⟨rfl,hrd11,hs11⟩
 obtain ⟨⟨y0,y1,y2,y3⟩,g0,g1,g2,g3⟩:=aK (hs11.heap (by simp;omega) H10.out.2.1)
 have H11:=hj_ hrd11 hs11
 clear hrd11 hs11
 go_wp2_with fail
 refine L_ (v:=eJ eD none 0) (by simp [results,results173,go_sem, *] <;> exact ⟨rfl,rfl,rfl,rfl⟩) rfl ?_
 have hK8:=HK8.out
 exact dV (P:=fun k=>k≤K8) (fun k hk=>by show k≤K8;omega) le_ (cR.leaf rfl) H11.out.1 (H10.out.2.2.2.2.then_ H11.out.2) (by omega) hg _ _ _ _
theorem Nb (l g A c first) (hlc:l.length≤c) (hf0:-9223372036854775808≤first) (at_ w) (hb:qM w g A l.length c first ⟨at_,0⟩) (hr:cN.Row [g] w A l) (h1:first≤at_) (h3:at_≤first+64) (hisp:iR l 2 3 ⟨at_,0⟩=none) (n a x) (ht:aE l at_=⟨4,x,n,a⟩) (hx:dK x ⟨#[40]⟩=true) (sp) (hpp:aT first ⟨at_,0⟩=(true,sp)) (lo orr) (hO:cG l g A c first lo 121 orr) (hl1:first≤sp.at_) (hl2:lo≤sp.at_) (hl3:sp.at_≤first+64) (e at2 n2 a2 x2) (hp2:orr sp=(e,⟨at2,0⟩)) (ht2:aE l at2=⟨4,x2,n2,a2⟩) (hlo2:first≤at2) (hhi2:at2≤first+64) (hx2:dK x2 ⟨#[41]⟩=true) :
  Calls prog 173 #[.pointer (some ⟨g,0,none⟩)] w (eO g A l.length c first (e,(aT first ⟨at2,0⟩).2) w):=by
 have HR:=hid hr
 have hg:=aC hb
 obtain ⟨wr,hw2,hb2,q5⟩:=alo_ w (.cells #[.int .i64 0,.int .i64 0,.string ⟨#[]⟩,.slice none 0 0] 41 (0,0))
 have q3:=hb.same hb2
 have q4:Same [g] w wr:=Same.of_below hb2
 obtain ⟨K8,hK8⟩:=nm_ w.heap.size
 have HIS:=eL l g A c first ⟨at_,0⟩ wr q3 (HR.out.keep q4) hlc 2 3 (by omega) (by omega) (by omega)
 rw [hK8] at q5
 have Q:=hk_ q3 q4 q5
 rw [hisp] at HIS
 have HHIS:=hid HIS
 have HW2:=hj_ hw2 hK8
 have HT:=hid ht
 have hmx:=hr.1
 clear HIS q3 q4 q5 hb2 hw2 hK8 hb hr hisp ht
 have hxb:(x.toList == [40])=true:=by rw [Lib.toList_data];exact hx
 have hxb2:(x2.toList == [41])=true:=by rw [Lib.toList_data];exact hx2
 have hxn2:(x2.toList != [41])=false:=by simp only [bne,hxb2];rfl
 have HO:=hid hO
 clear hO
 go_enter func173,ntmps173
 go_wp2_with (rw [HW2.out.1,HW2.out.2];refine HHIS.out.mono ?_;rintro r w3 ⟨rfl,hb3⟩;have HB3:=hid hb3;clear hb3)
 refine (bT l g A c first ⟨at_,0⟩ w3 (Q.out.1.same HB3.out) ((HR.out.keep Q.out.2.1).keep (Same.of_below HB3.out)) hlc).mono ?_
 rw [show aE l (St.mk at_ 0).at_=⟨4,x,n,a⟩ from HT.out]
 rintro r w4 ⟨rfl,hb4⟩
 obtain ⟨w5,hw5⟩:=nm_ (w4.alloc (.cells #[.int .i64 4,.string x,.int .i64 n,.int .i64 a] 60 (0,0)))
 have hb35:Below w3.heap.size w3 w5:=hb4.trans (hw5▸(J_ _ _).alloc hb4.size _)
 have hb5:Below wr.heap.size wr w5:=HB3.out.trans (hb35.mono HB3.out.size)
 have ht5:w5.heap[w4.heap.size]? = some (.cells #[.int .i64 4,.string x,.int .i64 n,.int .i64 a] 60 (0,0)):=hw5▸I_ _ _
 have hrd5:=Q.out.1.same hb5
 have hz5:=bp_ hb5 Q.out.2.2
 obtain ⟨⟨t0,t1,t2,t3⟩,_⟩:=aK ht5
 obtain ⟨⟨_,_,_,r3⟩,_⟩:=aK hrd5
 obtain ⟨⟨z0,z1,z2,z3⟩,f0,f1,f2,f3⟩:=aK hz5
 have hgt:g<w4.heap.size:=by have h1:=hb4.size;have h2:=HB3.out.size;have h3:=aC Q.out.1;omega
 have H5:=hm_ hrd5 hz5 ht5 (Q.out.2.1.below_ hb5) HW2.out.2
 have HW5:=hid hw5
 obtain ⟨Kt,hKt⟩:=nm_ w4.heap.size
 rw [hKt] at t0 t1 t2 t3 H5 hgt
 have HKt:=hid hKt
 clear hb35 hb5 hb4 hrd5 hz5 ht5 hw5 hKt
 go_wp2_with (rw [HW5.out,HKt.out])
 have hin:=(fS (l:=l) (i:=at_) (by rw [HT.out];show (4:Int)≠0;decide)).2
 refine (cW g A l.length c first ⟨at_,0⟩ w5 H5.out.1 h1 h3 (by show at_<_;omega) hf0).mono ?_
 rw [hpp]
 rintro r w6 ⟨rfl,hrd6,hs6⟩
 have hK8:=H5.out.2.2.2.2
 obtain ⟨⟨y0,y1,y2,y3⟩,g0,g1,g2,g3⟩:=aK (hs6.heap (by simp;omega) H5.out.2.1)
 obtain ⟨⟨u0,u1,u2,u3⟩,_⟩:=aK (hs6.heap (k:=Kt) (by simp;omega) H5.out.2.2.1)
 have H6:=hj_ hrd6 hs6
 have HK8:=hid hK8
 clear hrd6 hs6 hK8
 go_wp2_with fail
 have HS6:=hid (H5.out.2.2.2.1.then_ H6.out.2)
 refine (HO.out sp w6 H6.out.1 (HR.out.keep HS6.out) (by omega) (by omega) (by omega)).mono ?_
 rw [hp2]
 rintro r w7 ⟨B,d,rfl,hx7,hrd7,hs7⟩
 simp only at hx7 hrd7
 obtain ⟨w8,hw8,hb78,he8⟩:=alo_ w7 (.cells #[.int .i64 e.op,.int .i64 e.n,.string e.name,.slice B e.kids.length d] 41 (0,0))
 have hs58:Same [g] w5 w8:=(H6.out.2.then_ hs7).below_ hb78
 have hk58:=HK8.out
 have hz8:=hs58.heap (k:=K8) (by simp;omega) H5.out.2.1
 have hg7:g<w7.heap.size:=aC hrd7
 have hk7:K8<w7.heap.size:=aC ((H6.out.2.then_ hs7).heap (k:=K8) (by simp;omega) H5.out.2.1)
 have hx8:cR (fun k=>k≤K8) w8 e B d:=(hx7.more (Q:=fun k=>k≤K8) (fun k hk=>.inl (Nat.lt_of_le_of_lt hk (aC (H6.out.2.heap (k:=K8) (by simp;omega) H5.out.2.1))))).below hb78
 have H8:=hm_ (hrd7.same hb78) hz8 he8 hx8 ((HS6.out.then_ hs7).below_ hb78)
 have hg8:g≠K8:=by omega
 obtain ⟨Ke,hKe⟩:=nm_ w7.heap.size
 rw [hKe] at H8 hg7 hk7
 have HW8:=hj_ hw8 hKe
 clear hx7 hrd7 hs7 hb78 he8 hs58 hz8 hx8 hw8 hKe y0 y1 y2 y3 g0 g1 g2 g3 u0 u1 u2 u3 z0 z1 z2 z3 f0 f1 f2 f3 t0 t1 t2 t3 r3 hk58
 go_wp2_with (rw [HW8.out.1,HW8.out.2])
 refine (bT l g A c first ⟨at2,0⟩ w8 H8.out.1 (HR.out.keep H8.out.2.2.2.2) hlc).mono ?_
 rw [show aE l (St.mk at2 0).at_=⟨4,x2,n2,a2⟩ from ht2]
 rintro r w9 ⟨rfl,hb9⟩
 obtain ⟨w10,hw10⟩:=nm_ (w9.alloc (.cells #[.int .i64 4,.string x2,.int .i64 n2,.int .i64 a2] 60 (0,0)))
 have hb10:Below w8.heap.size w8 w10:=hb9.trans (hw10▸(J_ _ _).alloc hb9.size _)
 have ht10:w10.heap[w9.heap.size]? = some (.cells #[.int .i64 4,.string x2,.int .i64 n2,.int .i64 a2] 60 (0,0)):=hw10▸I_ _ _
 have hrd10:=H8.out.1.same hb10
 have hz10:=bp_ hb10 H8.out.2.1
 have he10:=bp_ hb10 H8.out.2.2.1
 obtain ⟨⟨t0,t1,t2,t3⟩,_⟩:=aK ht10
 obtain ⟨⟨_,_,_,r3⟩,_⟩:=aK hrd10
 obtain ⟨⟨z0,z1,z2,z3⟩,f0,f1,f2,f3⟩:=aK hz10
 obtain ⟨⟨v0,v1,v2,v3⟩,_⟩:=aK he10
 have H10:=hm_ hrd10 hz10 he10 (H8.out.2.2.2.1.below hb10) (H8.out.2.2.2.2.below_ hb10)
 have HW10:=hid hw10
 clear hb9 hb10 ht10 hrd10 hz10 he10 hw10
 go_wp2_with (rw [HW10.out])
 have hin2:=(fS (l:=l) (i:=at2) (by rw [ht2];show (4:Int)≠0;decide)).2
 refine (cW g A l.length c first ⟨at2,0⟩ w10 H10.out.1 hlo2 hhi2 (by show at2<_;omega) hf0).mono ?_
 rintro r w11 ⟨rfl,hrd11,hs11⟩
 obtain ⟨⟨y0,y1,y2,y3⟩,g0,g1,g2,g3⟩:=aK (hs11.heap (k:=K8) (by simp;omega) H10.out.2.1)
 obtain ⟨⟨u0,u1,u2,u3⟩,_⟩:=aK (hs11.heap (k:=Ke) (by simp;omega) H10.out.2.2.1)
 have H11:=hj_ hrd11 hs11
 clear hrd11 hs11
 go_wp2_with fail
 refine L_ (v:=eJ e B d) (by simp [results,results173,go_sem, *]) rfl ?_
 have hK8:=HK8.out
 exact dV (P:=fun k=>k≤K8) (fun k hk=>by show k≤K8;omega) le_ (H10.out.2.2.2.1.keep H11.out.2 (fun k hk=>by simp at hk;omega)) H11.out.1 (H10.out.2.2.2.2.then_ H11.out.2) (by omega) hg _ _ _ _
end Go.Proofs.YtgcfjkfipkfijaaGreatDoor
namespace Go.Proofs.YtgcfjkfipkfijaaGreatDoor
open Go Go.RowKit Go.Lib _root_.Go.Proofs.Tryz
theorem oU (l first f s):vD l first (f+1) s=vU l first (vD l first f) (uW l first (vD l first f)) s:=rfl
theorem oV (e s):(dL e s).at_=s.at_:=by unfold dL;split <;> rfl
theorem uK (first s) (h:s.at_≤first+64):s.at_≤(aT first s).2.at_∧(aT first s).2.at_≤first+64:=by
 have hp:=jO first s
 cases hb:(aT first s).1 with
 | true=>have:=hp.1 hb;omega
 | false=>have:=hp.2 hb;omega
theorem Nc {l first un orr} (h1:fP first un) (h2:fP first orr):fP first (vU l first un orr):=fun s hs=>by
 have hp:=uK first s hs
 have hu:=h1 (aT first s).2 hp.2
 have ho:=h2 (aT first s).2 hp.2
 have hp2:=uK first (orr (aT first s).2).2 ho.2
 unfold vU
 split
 ·split
  ·exact hp
  ·exact ⟨by simp only;omega,hu.2⟩
 ·split
  ·exact ⟨by simp only [oV];omega,by simp only [oV];omega⟩
  ·split
   ·exact hp
   ·split
    ·exact hp
    ·split
     ·exact hp
     ·split
      ·exact ⟨by simp only [oV];omega,by simp only [oV];omega⟩
      ·split
       ·exact ⟨by simp only;omega,hp2.2⟩
       ·exact ⟨by omega,ho.2⟩
theorem nP {l first un} (h:fP first un):fP first (uW l first un):=
 bN (bN (lJ (bN (bN h))))
theorem iA (l first):∀f,fP first (vD l first f)
 | 0=>fun s h=>⟨m_ _,h⟩
 | f+1=>fun s h=>by rw [oU];exact Nc (iA l first f) (nP (iA l first f)) s h
theorem Dp (l g A c first lo un) (hF:cG l g A c first lo 173 un) (hG:fP first un) (hlc:l.length≤c) (hf0:-9223372036854775808≤first) :
  cG l g A c first lo 121 (uW l first un):=
 Vr l g A c first lo _ (Re l g A c first lo _ (Rf l g A c first lo _ (Rd l g A c first lo _ (Mw l g A c first lo _ hF hG hlc hf0)
  (bN hG) hlc hf0) (bN (bN hG)) hlc hf0) (lJ (bN (bN hG))) hlc hf0) (bN (lJ (bN (bN hG)))) hlc hf0
theorem Vt (l g A c first lo un orr) (hF:cG l g A c first lo 173 un) (hO:cG l g A c first lo 121 orr) (hG:fP first orr) (hlc:l.length≤c) (hf0:-9223372036854775808≤first) (s w) (hb:qM w g A l.length c first s) (hr:cN.Row [g] w A l) (h1:first≤s.at_) (h2:lo≤s.at_+1) (h3:s.at_≤first+64) :
  Calls prog 173 #[.pointer (some ⟨g,0,none⟩)] w (eO g A l.length c first (vU l first un orr s) w):=by
 obtain ⟨at_,bad⟩:=s
 simp only at h1 h2 h3
 unfold vU
 cases hisp:iR l 2 3 ⟨at_,bad⟩ with
 | some op=>exact Zt l g A c first lo un hF hlc hf0 ⟨at_,bad⟩ w hb hr h1 h2 h3 op hisp
 | none=>
  obtain ⟨⟨k,x,n,a⟩,ht⟩:∃t,aE l at_=t:=⟨_,rfl⟩
  simp only [ht]
  by_cases h0:bad=0
  ·subst h0
   by_cases h4:k=4
   ·subst h4
    cases hx:dK x ⟨#[40]⟩ with
    | false=>
     rw [M_ (.inr ⟨by simp [iJ,hx],by decide,by decide⟩)]
     exact Mx l g A c first hlc hf0 at_ w hb hr h1 h3 hisp n a x ht hx
    | true=>
     rw [K_ (by simp [iJ,hx])]
     obtain ⟨⟨pb,sp⟩,hpp⟩:∃p,aT first ⟨at_,0⟩=p:=⟨_,rfl⟩
     have hpa:=jO first ⟨at_,0⟩
     rw [hpp] at hpa
     simp only [hpp]
     cases pb with
     | false=>exact Rh l g A c first hlc hf0 at_ w hb hr h1 h3 hisp n a x ht hx sp hpp
     | true=>
      have hp1:=hpa.1 rfl
      simp only at hp1
      rw [K_ (by simp),K_ (by decide),K_ (by decide)]
      have hg2:=hG sp (by omega)
      obtain ⟨⟨e,at2,bad2⟩,hp2⟩:∃p,orr sp=p:=⟨_,rfl⟩
      rw [hp2] at hg2
      simp only at hg2
      obtain ⟨⟨k2,x2,n2,a2⟩,ht2⟩:∃t,aE l at2=t:=⟨_,rfl⟩
      simp only [hp2,ht2]
      by_cases hb2:bad2=0
      ·subst hb2
       by_cases hk2:k2=4
       ·subst hk2
        cases hx2:dK x2 ⟨#[41]⟩ with
        | false=>
         rw [M_ ⟨rfl,by simp [qR,hx2]⟩]
         exact Rj l g A c first hlc hf0 at_ w hb hr h1 h3 hisp n a x ht hx sp hpp lo orr hO (by omega) (by omega) (by omega) e at2 n2 a2 x2 hp2 ht2 (by omega) (by omega) hx2
        | true=>
         rw [K_ (by simp [qR,hx2]),M_ rfl]
         exact Nb l g A c first hlc hf0 at_ w hb hr h1 h3 hisp n a x ht hx sp hpp lo orr hO (by omega) (by omega) (by omega) e at2 n2 a2 x2 hp2 ht2 (by omega) (by omega) hx2
       ·rw [M_ ⟨rfl,by simp [qR,hk2]⟩]
        exact Ri l g A c first hlc hf0 at_ w hb hr h1 h3 hisp n a x ht hx sp hpp lo orr hO (by omega) (by omega) (by omega) e at2 k2 n2 a2 x2 hp2 ht2 (by omega) (by omega) hk2
      ·rw [K_ (fun h=>hb2 h.1),K_ hb2]
       exact Ht l g A c first hlc hf0 at_ w hb hr h1 h3 hisp n a x ht hx sp hpp lo orr hO (by omega) (by omega) (by omega) e at2 bad2 k2 n2 a2 x2 hp2 ht2 (by omega) (by omega) hb2
   ·by_cases h5:k=2
    ·subst h5
     rw [K_ (by simp)]
     obtain ⟨⟨pb,sp⟩,hpp⟩:∃p,aT first ⟨at_,0⟩=p:=⟨_,rfl⟩
     simp only [hpp]
     cases pb with
     | false=>exact Rg l g A c first hlc hf0 at_ w hb hr h1 h3 hisp n a x ht sp hpp
     | true=>exact Yr l g A c first hlc hf0 at_ w hb hr h1 h3 hisp n a x ht sp hpp
    ·by_cases h6:k=1
     ·subst h6
      rw [K_ (by simp)]
      obtain ⟨⟨pb,sp⟩,hpp⟩:∃p,aT first ⟨at_,0⟩=p:=⟨_,rfl⟩
      simp only [hpp]
      cases pb with
      | false=>exact Na l g A c first hlc hf0 at_ w hb hr h1 h3 hisp n a x ht sp hpp
      | true=>exact Vs l g A c first hlc hf0 at_ w hb hr h1 h3 hisp n a x ht sp hpp
     ·rw [M_ (.inr ⟨by simp [iJ,h4],h5,h6⟩)]
      exact My l g A c first hlc hf0 at_ w hb hr h1 h3 hisp k n a x ht h4 h5 h6
  ·rw [M_ (.inl h0)]
   by_cases h4:k=4
   ·subst h4
    exact Hs l g A c first hlc hf0 at_ bad w hb hr h1 h3 hisp n a x ht h0
   ·exact Mz l g A c first hlc hf0 at_ bad w hb hr h1 h3 hisp k n a x ht h0 h4
theorem zH (l g A c first) (hlc:l.length≤c) (hf0:-9223372036854775808≤first) :
  ∀f:Nat,cG l g A c first (first+65 - f) 173 (vD l first f)
 | 0=>fun s w _ _ _ h2 h3=>by simp at h2;omega
 | f+1=>fun s w hb hr h1 h2 h3=>by
  have hu:=zH l g A c first hlc hf0 f
  have hg:=iA l first f
  rw [oU]
  exact Vt l g A c first (first+65 - f) (vD l first f) (uW l first (vD l first f)) hu (Dp l g A c first _ _ hu hg hlc hf0) (nP hg) hlc hf0 s w hb hr h1 (by push_cast at h2;omega) h3
theorem Rk (l g A c first) (hlc:l.length≤c) (hf0:-9223372036854775808≤first) :
  cG l g A c first first 121 (uW l first (vD l first 66)):=
 (Dp l g A c first _ _ (zH l g A c first hlc hf0 66) (iA l first 66) hlc hf0).lo (by simp;omega)
end Go.Proofs.YtgcfjkfipkfijaaGreatDoor
namespace Go.Proofs.YtgcfjkfipkfijaaGreatDoor
open Go Go.RowKit Go.Lib _root_.Go.Proofs.Tryz
def bR (b:Nat) (p:Ex × Int × Int) (w:World) (r:Ending) (w':World):Prop:=
 ∃B d,r=.returned (.tuple #[eJ p.1 B d,.int .i64 p.2.1,.int .i64 p.2.2])∧cR (fun k=>k<b) w' p.1 B d∧Below b w w'
theorem mS {g K B d e x y w w2 w3 w4 W} (hb:Below w.heap.size w w2) (hK:w.heap.size=K) (hg:K<g) (hs3:Same [g] w2 w3) (hx:cR (fun k=>k<w2.heap.size) w3 e B d) (hk2:g<w2.heap.size) (hb4:Below w3.heap.size w3 w4) (h4:Same [K] w4 W):bR K (e,x,y) w (.returned (.tuple #[eJ e B d,.int .i64 x,.int .i64 y])) W:=by
 rw [←hK]
 refine ⟨B,d,rfl,((hx.below hb4).keep h4 (fun k hk=>by simp at hk;omega)).more (fun k hk=>.inl (by show k<w2.heap.size;omega)),?_⟩
 exact (((Same.of_below (M:=[g,K]) hb).trans hs3 (fun x hx=>by simp at hx;subst hx;simp)).trans (Same.of_below (M:=[]) hb4) (fun x hx=>by simp at hx)).trans h4 (fun x hx=>by simp at hx;subst hx;simp)
  |>.below_of (fun k hk=>by simp at hk;omega)
theorem Rl (l A c a w) (hr:cN.Row [] w A l) (hlc:l.length≤c) (ha:-9223372036854775808≤a) :
  Calls prog 108 #[.slice A l.length c,.int .i64 a] w (bR w.heap.size (gZ l a) w):=by
 obtain ⟨ANS,hANS⟩:=nm_ (gZ l a)
 rw [hANS]
 unfold gZ at hANS
 have HE:=hid (fun g s W=>Rk l g A c a hlc ha s W)
 obtain ⟨⟨e,at2,bad2⟩,hp⟩:∃p,uW l a (vD l a 66) ⟨a,0⟩=p:=⟨_,rfl⟩
 simp only [hp] at hANS
 have HANS:=hid hANS
 obtain ⟨w1,hw1⟩:=nm_ (w.alloc (.cells #[.int .i64 0,.int .i64 0,.string ⟨#[]⟩,.slice none 0 0] 41 (0,0)))
 obtain ⟨w2,hw2⟩:=nm_ (w1.alloc (.cells #[.slice A l.length c,.int .i64 a,.int .i64 a,.int .i64 0] 161 (0,0)))
 have hb1:Below w.heap.size w w1:=hw1▸(J_ _ _).alloc le_ _
 have hb2:Below w1.heap.size w1 w2:=hw2▸(J_ _ _).alloc le_ _
 have hbw:Below w.heap.size w w2:=hb1.trans (hb2.mono hb1.size)
 have hz1:w1.heap[w.heap.size]? = some (.cells #[.int .i64 0,.int .i64 0,.string ⟨#[]⟩,.slice none 0 0] 41 (0,0)):=hw1▸I_ _ _
 have hrd2:qM w2 w1.heap.size A l.length c a ⟨a,0⟩:=hw2▸I_ _ _
 have hz2:=bp_ hb2 hz1
 obtain ⟨g,hg⟩:=nm_ w1.heap.size
 obtain ⟨K,hK⟩:=nm_ w.heap.size
 have hKg:w.heap.size<w1.heap.size:=aC hz1
 rw [hg] at hrd2 hKg
 rw [hK] at hz2 hKg
 have hr2:cN.Row [g] w2 A l:=(hr.less (M':=[g]) (fun k hk=>by simp at hk;omega)).keep (Same.of_below hbw)
 have H2:=hl_ hrd2 hr2 hz2 hbw
 have HP:=hid hp
 have hgk:K+1=g:=by rw [←hg,←hw1,←hK];simp
 have HW:=hk_ hw1 hw2 hgk
 clear hw1 hw2 hb1 hb2 hbw hz1 hrd2 hz2 hr2 hANS hp hg hr hgk
 by_cases h0:bad2=0
 ·have h0b:(bad2 != 0)=false:=by rw [h0];rfl
  have h0c:(bad2 == 0)=true:=by rw [h0];rfl
  go_enter func108,ntmps108
  go_wp2_with fail
  rw [HW.out.1,HW.out.2.1,show K+1=g from HW.out.2.2]
  refine (HE.out g ⟨a,0⟩ w2 H2.out.1 H2.out.2.1 (m_ _) (m_ _) (by show a≤a+64;omega)).mono ?_
  rw [HP.out]
  rintro r w3 ⟨B,d,rfl,hx3,hrd3,hs3⟩
  simp only at hx3 hrd3
  have hz3:=hs3.heap (k:=K) (by simp;omega) H2.out.2.2.1
  have H3:=hl_ hx3 hrd3 hs3 hz3
  obtain ⟨⟨_,_,r2,r3⟩,_⟩:=aK hrd3
  obtain ⟨⟨z0,z1,z2,z3⟩,f0,f1,f2,f3⟩:=aK hz3
  have hgs:g<w3.heap.size:=aC hrd3
  have hks:K<w3.heap.size:=aC hz3
  obtain ⟨w4,hw4,hb4,hx4⟩:=alo_ w3 (.cells #[.int .i64 e.op,.int .i64 e.n,.string e.name,.slice B e.kids.length d] 41 (0,0))
  have H4:=hl_ hb4 (hrd3.same hb4) ((hb4.block _ hks).trans hz3) hx4
  have HW4:=hid hw4
  have HK:=hid hK
  have HG2:=hid (aC H2.out.1)
  obtain ⟨Kx,hKx⟩:=nm_ w3.heap.size
  have HKx:=hid hKx
  clear hx3 hrd3 hs3 hz3 hw4 hb4 hx4 hKx
  go_wp2_with fail
  clear r2 r3 z0 z1 z2 z3 f0 f1 f2 f3
  rw [HW4.out]
  obtain ⟨⟨_,_,r2,r3⟩,_⟩:=aK H4.out.2.1
  obtain ⟨⟨z0,z1,z2,z3⟩,f0,f1,f2,f3⟩:=aK H4.out.2.2.1
  obtain ⟨⟨x0,x1,x2,x3⟩,_⟩:=aK H4.out.2.2.2
  go_region_with (fail)
  all_goals
   go_wp2
   refine L_ (v:=.tuple #[eJ e B d,.int .i64 0,.int .i64 at2]) (by simp [results,results108,go_sem, *] <;> exact ⟨rfl,rfl,rfl,rfl⟩) rfl ?_
   have h4:∀a b c d,Same [K] w4 (((((w4.setCell ⟨K,0,none⟩ a).setCell ⟨K,1,none⟩ b).setCell ⟨K,2,none⟩ c).setCell ⟨K,3,none⟩ d)):=bS w4 K
   rw [←HANS.out,K_ (by simp [h0])]
   have hK:=HK.out
   first
    | exact mS H2.out.2.2.2 hK hKg H3.out.2.2.1 H3.out.1 HG2.out H4.out.1 (h4 _ _ _ _)
    | exact mS H2.out.2.2.2 hK hKg H3.out.2.2.1 H3.out.1 HG2.out H4.out.1 ((h4 _ _ _ _).drew)
    | exact mS H2.out.2.2.2 hK hKg H3.out.2.2.1 H3.out.1 HG2.out H4.out.1 ((Same.drew (Same.refl [K] w4)).then_ (bS _ K _ _ _ _))
 ·have h0b:(bad2 != 0)=true:=B_ h0
  have h0c:(bad2 == 0)=false:=A_ h0
  go_enter func108,ntmps108
  go_wp2_with fail
  rw [HW.out.1,HW.out.2.1,show K+1=g from HW.out.2.2]
  refine (HE.out g ⟨a,0⟩ w2 H2.out.1 H2.out.2.1 (m_ _) (m_ _) (by show a≤a+64;omega)).mono ?_
  rw [HP.out]
  rintro r w3 ⟨B,d,rfl,hx3,hrd3,hs3⟩
  simp only at hx3 hrd3
  have hz3:=hs3.heap (k:=K) (by simp;omega) H2.out.2.2.1
  have H3:=hl_ hx3 hrd3 hs3 hz3
  obtain ⟨⟨_,_,r2,r3⟩,_⟩:=aK hrd3
  obtain ⟨⟨z0,z1,z2,z3⟩,f0,f1,f2,f3⟩:=aK hz3
  have hgs:g<w3.heap.size:=aC hrd3
  have hks:K<w3.heap.size:=aC hz3
  obtain ⟨w4,hw4,hb4,hx4⟩:=alo_ w3 (.cells #[.int .i64 e.op,.int .i64 e.n,.string e.name,.slice B e.kids.length d] 41 (0,0))
  have H4:=hl_ hb4 (hrd3.same hb4) ((hb4.block _ hks).trans hz3) hx4
  have HW4:=hid hw4
  have HK:=hid hK
  have HG2:=hid (aC H2.out.1)
  obtain ⟨Kx,hKx⟩:=nm_ w3.heap.size
  have HKx:=hid hKx
  clear hx3 hrd3 hs3 hz3 hw4 hb4 hx4 hKx
  go_wp2_with fail
  clear r2 r3 z0 z1 z2 z3 f0 f1 f2 f3
  rw [HW4.out]
  obtain ⟨⟨_,_,r2,r3⟩,_⟩:=aK H4.out.2.1
  obtain ⟨⟨z0,z1,z2,z3⟩,f0,f1,f2,f3⟩:=aK H4.out.2.2.1
  obtain ⟨⟨x0,x1,x2,x3⟩,_⟩:=aK H4.out.2.2.2
  go_region_with (fail)
  all_goals
   go_wp2
   refine L_ (v:=.tuple #[eJ eD none 0,.int .i64 bad2,.int .i64 at2]) (by simp [results,results108,go_sem, *] <;> exact ⟨rfl,rfl,rfl,rfl⟩) rfl ?_
   have h4:∀a b c d,Same [K] w4 (((((w4.setCell ⟨K,0,none⟩ a).setCell ⟨K,1,none⟩ b).setCell ⟨K,2,none⟩ c).setCell ⟨K,3,none⟩ d)):=bS w4 K
   rw [←HANS.out,M_ h0]
   have hK:=HK.out
   first
    | exact mS H2.out.2.2.2 hK hKg H3.out.2.2.1 (cR.leaf (e:=eD) rfl) HG2.out H4.out.1 (h4 _ _ _ _)
    | exact mS H2.out.2.2.2 hK hKg H3.out.2.2.1 (cR.leaf (e:=eD) rfl) HG2.out H4.out.1 ((h4 _ _ _ _).drew)
    | exact mS H2.out.2.2.2 hK hKg H3.out.2.2.1 (cR.leaf (e:=eD) rfl) HG2.out H4.out.1 ((Same.drew (Same.refl [K] w4)).then_ (bS _ K _ _ _ _))
end Go.Proofs.YtgcfjkfipkfijaaGreatDoor
