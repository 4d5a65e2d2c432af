/- Part 7 of the proof of rtrees_card; no conditions. -/
import Derived.Test.YtgcfjkfipkfijaaGreatDoorTr01
import Derived.Test.YtgcfjkfipkfijaaGreatDoorTr06
set_option maxRecDepth 100000
set_option maxHeartbeats 4000000
namespace Go.Proofs.YtgcfjkfipkfijaaGreatDoor
open Go Go.RowKit Go.Lib _root_.Go.Proofs.Tryz
theorem Mx (l g A c first) (hlc:l.length≤c) (hf0:-9223372036854775808≤first) (at_ w) (hb:qM w g A l.length c first ⟨at_,0⟩) (hr:cN.Row [g] w A l) (h1:first≤at_) (h3:at_≤first+64) (hisp:iR l 2 3 ⟨at_,0⟩=none) (n a x) (ht:aE l at_=⟨4,x,n,a⟩) (hx:dK x ⟨#[40]⟩=false) :
  Calls prog 173 #[.pointer (some ⟨g,0,none⟩)] w (eO g A l.length c first (eD,dL 11 ⟨at_,0⟩) w):=by
 have HR:=hid hr
 have hg:=aC hb
 obtain ⟨wr,hw2,hb2,q5⟩:=alo_ w (.cells #[.int .i64 0,.int .i64 0,.string ⟨#[]⟩,.slice none 0 0] 41 (0,0))
 have q3:=hb.same hb2
 have q4:Same [g] w wr:=Same.of_below hb2
 obtain ⟨K8,hK8⟩:=nm_ w.heap.size
 have HIS:=eL l g A c first ⟨at_,0⟩ wr q3 (HR.out.keep q4) hlc 2 3 (by omega) (by omega) (by omega)
 rw [hK8] at q5
 have Q:=hk_ q3 q4 q5
 rw [hisp] at HIS
 have HHIS:=hid HIS
 have HW2:=hj_ hw2 hK8
 have HT:=hid ht
 have hmx:=hr.1
 clear HIS q3 q4 q5 hb2 hw2 hK8 hb hr hisp ht
 have hxb:(x.toList == [40])=false:=by rw [Lib.toList_data];exact hx
 go_enter func173,ntmps173
 go_wp2_with (rw [HW2.out.1,HW2.out.2];refine HHIS.out.mono ?_;rintro r w3 ⟨rfl,hb3⟩;have HB3:=hid hb3;clear hb3)
 refine (bT l g A c first ⟨at_,0⟩ w3 (Q.out.1.same HB3.out) ((HR.out.keep Q.out.2.1).keep (Same.of_below HB3.out)) hlc).mono ?_
 rw [show aE l (St.mk at_ 0).at_=⟨4,x,n,a⟩ from HT.out]
 rintro r w4 ⟨rfl,hb4⟩
 obtain ⟨w5,hw5⟩:=nm_ (w4.alloc (.cells #[.int .i64 4,.string x,.int .i64 n,.int .i64 a] 60 (0,0)))
 have hb35:Below w3.heap.size w3 w5:=hb4.trans (hw5▸(J_ _ _).alloc hb4.size _)
 have hb5:Below wr.heap.size wr w5:=HB3.out.trans (hb35.mono HB3.out.size)
 have ht5:w5.heap[w4.heap.size]? = some (.cells #[.int .i64 4,.string x,.int .i64 n,.int .i64 a] 60 (0,0)):=hw5▸I_ _ _
 have hrd5:=Q.out.1.same hb5
 have hz5:=bp_ hb5 Q.out.2.2
 obtain ⟨⟨t0,t1,t2,t3⟩,_⟩:=aK ht5
 obtain ⟨⟨_,_,_,r3⟩,_⟩:=aK hrd5
 obtain ⟨⟨z0,z1,z2,z3⟩,f0,f1,f2,f3⟩:=aK hz5
 have hgt:g<w4.heap.size:=by have h1:=hb4.size;have h2:=HB3.out.size;have h3:=aC Q.out.1;omega
 have H5:=hm_ hrd5 hz5 ht5 (Q.out.2.1.below_ hb5) HW2.out.2
 have HW5:=hid hw5
 obtain ⟨Kt,hKt⟩:=nm_ w4.heap.size
 rw [hKt] at t0 t1 t2 t3 H5 hgt
 have HKt:=hid hKt
 clear hb35 hb5 hb4 hrd5 hz5 ht5 hw5 hKt
 go_wp2_with (rw [HW5.out,HKt.out])
 have _u:=(⟨hf0,h1,h3⟩:_∧_∧_)
 clear _u hf0 h1 h3
 refine (lI g A l.length c first ⟨at_,0⟩ w5 H5.out.1 11).mono ?_
 rintro r w6 ⟨rfl,hrd6,hs6⟩
 have hK8:=H5.out.2.2.2.2
 obtain ⟨⟨y0,y1,y2,y3⟩,g0,g1,g2,g3⟩:=aK (hs6.heap (by simp;omega) H5.out.2.1)
 have H6:=hj_ hrd6 hs6
 have HK8:=hid hK8
 clear hrd6 hs6 hK8
 go_wp2_with fail
 refine L_ (v:=eJ eD none 0) (by simp [results,results173,go_sem, *] <;> exact ⟨rfl,rfl,rfl,rfl⟩) rfl ?_
 have hK8:=HK8.out
 exact dV (P:=fun k=>k≤K8) (fun k hk=>by show k≤K8;omega) le_ (cR.leaf rfl) H6.out.1 (H5.out.2.2.2.1.then_ H6.out.2) (by omega) hg _ _ _ _
theorem My (l g A c first) (hlc:l.length≤c) (hf0:-9223372036854775808≤first) (at_ w) (hb:qM w g A l.length c first ⟨at_,0⟩) (hr:cN.Row [g] w A l) (h1:first≤at_) (h3:at_≤first+64) (hisp:iR l 2 3 ⟨at_,0⟩=none) (k n a x) (ht:aE l at_=⟨k,x,n,a⟩) (h4:k≠4) (h5:k≠2) (h6:k≠1) :
  Calls prog 173 #[.pointer (some ⟨g,0,none⟩)] w (eO g A l.length c first (eD,dL 11 ⟨at_,0⟩) w):=by
 have HR:=hid hr
 have hg:=aC hb
 obtain ⟨wr,hw2,hb2,q5⟩:=alo_ w (.cells #[.int .i64 0,.int .i64 0,.string ⟨#[]⟩,.slice none 0 0] 41 (0,0))
 have q3:=hb.same hb2
 have q4:Same [g] w wr:=Same.of_below hb2
 obtain ⟨K8,hK8⟩:=nm_ w.heap.size
 have HIS:=eL l g A c first ⟨at_,0⟩ wr q3 (HR.out.keep q4) hlc 2 3 (by omega) (by omega) (by omega)
 rw [hK8] at q5
 have Q:=hk_ q3 q4 q5
 rw [hisp] at HIS
 have HHIS:=hid HIS
 have HW2:=hj_ hw2 hK8
 have HT:=hid ht
 have hmx:=hr.1
 clear HIS q3 q4 q5 hb2 hw2 hK8 hb hr hisp ht
 have hk4:(k == 4)=false:=A_ h4
 have hn2:(k != 2)=true:=B_ h5
 have hn1:(k != 1)=true:=B_ h6
 have hk2:(k == 2)=false:=A_ h5
 have hk1:(k == 1)=false:=A_ h6
 go_enter func173,ntmps173
 go_wp2_with (rw [HW2.out.1,HW2.out.2];refine HHIS.out.mono ?_;rintro r w3 ⟨rfl,hb3⟩;have HB3:=hid hb3;clear hb3)
 refine (bT l g A c first ⟨at_,0⟩ w3 (Q.out.1.same HB3.out) ((HR.out.keep Q.out.2.1).keep (Same.of_below HB3.out)) hlc).mono ?_
 rw [show aE l (St.mk at_ 0).at_=⟨k,x,n,a⟩ from HT.out]
 rintro r w4 ⟨rfl,hb4⟩
 obtain ⟨w5,hw5⟩:=nm_ (w4.alloc (.cells #[.int .i64 k,.string x,.int .i64 n,.int .i64 a] 60 (0,0)))
 have hb35:Below w3.heap.size w3 w5:=hb4.trans (hw5▸(J_ _ _).alloc hb4.size _)
 have hb5:Below wr.heap.size wr w5:=HB3.out.trans (hb35.mono HB3.out.size)
 have ht5:w5.heap[w4.heap.size]? = some (.cells #[.int .i64 k,.string x,.int .i64 n,.int .i64 a] 60 (0,0)):=hw5▸I_ _ _
 have hrd5:=Q.out.1.same hb5
 have hz5:=bp_ hb5 Q.out.2.2
 obtain ⟨⟨t0,t1,t2,t3⟩,_⟩:=aK ht5
 obtain ⟨⟨_,_,_,r3⟩,_⟩:=aK hrd5
 obtain ⟨⟨z0,z1,z2,z3⟩,f0,f1,f2,f3⟩:=aK hz5
 have hgt:g<w4.heap.size:=by have h1:=hb4.size;have h2:=HB3.out.size;have h3:=aC Q.out.1;omega
 have H5:=hm_ hrd5 hz5 ht5 (Q.out.2.1.below_ hb5) HW2.out.2
 have HW5:=hid hw5
 obtain ⟨Kt,hKt⟩:=nm_ w4.heap.size
 rw [hKt] at t0 t1 t2 t3 H5 hgt
 have HKt:=hid hKt
 clear hb35 hb5 hb4 hrd5 hz5 ht5 hw5 hKt
 go_wp2_with (rw [HW5.out,HKt.out])
 have _u:=(⟨hf0,h1,h3⟩:_∧_∧_)
 clear _u hf0 h1 h3
 refine (lI g A l.length c first ⟨at_,0⟩ w5 H5.out.1 11).mono ?_
 rintro r w6 ⟨rfl,hrd6,hs6⟩
 have hK8:=H5.out.2.2.2.2
 obtain ⟨⟨y0,y1,y2,y3⟩,g0,g1,g2,g3⟩:=aK (hs6.heap (by simp;omega) H5.out.2.1)
 have H6:=hj_ hrd6 hs6
 have HK8:=hid hK8
 clear hrd6 hs6 hK8
 go_wp2_with fail
 refine L_ (v:=eJ eD none 0) (by simp [results,results173,go_sem, *] <;> exact ⟨rfl,rfl,rfl,rfl⟩) rfl ?_
 have hK8:=HK8.out
 exact dV (P:=fun k=>k≤K8) (fun k hk=>by show k≤K8;omega) le_ (cR.leaf rfl) H6.out.1 (H5.out.2.2.2.1.then_ H6.out.2) (by omega) hg _ _ _ _
theorem Hs (l g A c first) (hlc:l.length≤c) (hf0:-9223372036854775808≤first) (at_ bad w) (hb:qM w g A l.length c first ⟨at_,bad⟩) (hr:cN.Row [g] w A l) (h1:first≤at_) (h3:at_≤first+64) (hisp:iR l 2 3 ⟨at_,bad⟩=none) (n a x) (ht:aE l at_=⟨4,x,n,a⟩) (h0:bad≠0) :
  Calls prog 173 #[.pointer (some ⟨g,0,none⟩)] w (eO g A l.length c first (eD,dL 11 ⟨at_,bad⟩) w):=by
 have HR:=hid hr
 have hg:=aC hb
 obtain ⟨wr,hw2,hb2,q5⟩:=alo_ w (.cells #[.int .i64 0,.int .i64 0,.string ⟨#[]⟩,.slice none 0 0] 41 (0,0))
 have q3:=hb.same hb2
 have q4:Same [g] w wr:=Same.of_below hb2
 obtain ⟨K8,hK8⟩:=nm_ w.heap.size
 have HIS:=eL l g A c first ⟨at_,bad⟩ wr q3 (HR.out.keep q4) hlc 2 3 (by omega) (by omega) (by omega)
 rw [hK8] at q5
 have Q:=hk_ q3 q4 q5
 rw [hisp] at HIS
 have HHIS:=hid HIS
 have HW2:=hj_ hw2 hK8
 have HT:=hid ht
 have hmx:=hr.1
 clear HIS q3 q4 q5 hb2 hw2 hK8 hb hr hisp ht
 have hnb:(bad != 0)=true:=B_ h0
 have hbb:(bad == 0)=false:=A_ h0
 go_enter func173,ntmps173
 go_wp2_with (rw [HW2.out.1,HW2.out.2];refine HHIS.out.mono ?_;rintro r w3 ⟨rfl,hb3⟩;have HB3:=hid hb3;clear hb3)
 refine (bT l g A c first ⟨at_,bad⟩ w3 (Q.out.1.same HB3.out) ((HR.out.keep Q.out.2.1).keep (Same.of_below HB3.out)) hlc).mono ?_
 rw [show aE l (St.mk at_ bad).at_=⟨4,x,n,a⟩ from HT.out]
 rintro r w4 ⟨rfl,hb4⟩
 obtain ⟨w5,hw5⟩:=nm_ (w4.alloc (.cells #[.int .i64 4,.string x,.int .i64 n,.int .i64 a] 60 (0,0)))
 have hb35:Below w3.heap.size w3 w5:=hb4.trans (hw5▸(J_ _ _).alloc hb4.size _)
 have hb5:Below wr.heap.size wr w5:=HB3.out.trans (hb35.mono HB3.out.size)
 have ht5:w5.heap[w4.heap.size]? = some (.cells #[.int .i64 4,.string x,.int .i64 n,.int .i64 a] 60 (0,0)):=hw5▸I_ _ _
 have hrd5:=Q.out.1.same hb5
 have hz5:=bp_ hb5 Q.out.2.2
 obtain ⟨⟨t0,t1,t2,t3⟩,_⟩:=aK ht5
 obtain ⟨⟨_,_,_,r3⟩,_⟩:=aK hrd5
 obtain ⟨⟨z0,z1,z2,z3⟩,f0,f1,f2,f3⟩:=aK hz5
 have hgt:g<w4.heap.size:=by have h1:=hb4.size;have h2:=HB3.out.size;have h3:=aC Q.out.1;omega
 have H5:=hm_ hrd5 hz5 ht5 (Q.out.2.1.below_ hb5) HW2.out.2
 have HW5:=hid hw5
 obtain ⟨Kt,hKt⟩:=nm_ w4.heap.size
 rw [hKt] at t0 t1 t2 t3 H5 hgt
 have HKt:=hid hKt
 clear hb35 hb5 hb4 hrd5 hz5 ht5 hw5 hKt
 go_wp2_with (rw [HW5.out,HKt.out])
 have _u:=(⟨hf0,h1,h3⟩:_∧_∧_)
 clear _u hf0 h1 h3
 refine (lI g A l.length c first ⟨at_,bad⟩ w5 H5.out.1 11).mono ?_
 rintro r w6 ⟨rfl,hrd6,hs6⟩
 have hK8:=H5.out.2.2.2.2
 obtain ⟨⟨y0,y1,y2,y3⟩,g0,g1,g2,g3⟩:=aK (hs6.heap (by simp;omega) H5.out.2.1)
 have H6:=hj_ hrd6 hs6
 have HK8:=hid hK8
 clear hrd6 hs6 hK8
 go_wp2_with fail
 refine L_ (v:=eJ eD none 0) (by simp [results,results173,go_sem, *] <;> exact ⟨rfl,rfl,rfl,rfl⟩) rfl ?_
 have hK8:=HK8.out
 exact dV (P:=fun k=>k≤K8) (fun k hk=>by show k≤K8;omega) le_ (cR.leaf rfl) H6.out.1 (H5.out.2.2.2.1.then_ H6.out.2) (by omega) hg _ _ _ _
theorem Mz (l g A c first) (hlc:l.length≤c) (hf0:-9223372036854775808≤first) (at_ bad w) (hb:qM w g A l.length c first ⟨at_,bad⟩) (hr:cN.Row [g] w A l) (h1:first≤at_) (h3:at_≤first+64) (hisp:iR l 2 3 ⟨at_,bad⟩=none) (k n a x) (ht:aE l at_=⟨k,x,n,a⟩) (h0:bad≠0) (h4:k≠4) :
  Calls prog 173 #[.pointer (some ⟨g,0,none⟩)] w (eO g A l.length c first (eD,dL 11 ⟨at_,bad⟩) w):=by
 have HR:=hid hr
 have hg:=aC hb
 obtain ⟨wr,hw2,hb2,q5⟩:=alo_ w (.cells #[.int .i64 0,.int .i64 0,.string ⟨#[]⟩,.slice none 0 0] 41 (0,0))
 have q3:=hb.same hb2
 have q4:Same [g] w wr:=Same.of_below hb2
 obtain ⟨K8,hK8⟩:=nm_ w.heap.size
 have HIS:=eL l g A c first ⟨at_,bad⟩ wr q3 (HR.out.keep q4) hlc 2 3 (by omega) (by omega) (by omega)
 rw [hK8] at q5
 have Q:=hk_ q3 q4 q5
 rw [hisp] at HIS
 have HHIS:=hid HIS
 have HW2:=hj_ hw2 hK8
 have HT:=hid ht
 have hmx:=hr.1
 clear HIS q3 q4 q5 hb2 hw2 hK8 hb hr hisp ht
 have hnb:(bad != 0)=true:=B_ h0
 have hbb:(bad == 0)=false:=A_ h0
 have hk4:(k == 4)=false:=A_ h4
 go_enter func173,ntmps173
 go_wp2_with (rw [HW2.out.1,HW2.out.2];refine HHIS.out.mono ?_;rintro r w3 ⟨rfl,hb3⟩;have HB3:=hid hb3;clear hb3)
 refine (bT l g A c first ⟨at_,bad⟩ w3 (Q.out.1.same HB3.out) ((HR.out.keep Q.out.2.1).keep (Same.of_below HB3.out)) hlc).mono ?_
 rw [show aE l (St.mk at_ bad).at_=⟨k,x,n,a⟩ from HT.out]
 rintro r w4 ⟨rfl,hb4⟩
 obtain ⟨w5,hw5⟩:=nm_ (w4.alloc (.cells #[.int .i64 k,.string x,.int .i64 n,.int .i64 a] 60 (0,0)))
 have hb35:Below w3.heap.size w3 w5:=hb4.trans (hw5▸(J_ _ _).alloc hb4.size _)
 have hb5:Below wr.heap.size wr w5:=HB3.out.trans (hb35.mono HB3.out.size)
 have ht5:w5.heap[w4.heap.size]? = some (.cells #[.int .i64 k,.string x,.int .i64 n,.int .i64 a] 60 (0,0)):=hw5▸I_ _ _
 have hrd5:=Q.out.1.same hb5
 have hz5:=bp_ hb5 Q.out.2.2
 obtain ⟨⟨t0,t1,t2,t3⟩,_⟩:=aK ht5
 obtain ⟨⟨_,_,_,r3⟩,_⟩:=aK hrd5
 obtain ⟨⟨z0,z1,z2,z3⟩,f0,f1,f2,f3⟩:=aK hz5
 have hgt:g<w4.heap.size:=by have h1:=hb4.size;have h2:=HB3.out.size;have h3:=aC Q.out.1;omega
 have H5:=hm_ hrd5 hz5 ht5 (Q.out.2.1.below_ hb5) HW2.out.2
 have HW5:=hid hw5
 obtain ⟨Kt,hKt⟩:=nm_ w4.heap.size
 rw [hKt] at t0 t1 t2 t3 H5 hgt
 have HKt:=hid hKt
 clear hb35 hb5 hb4 hrd5 hz5 ht5 hw5 hKt
 go_wp2_with (rw [HW5.out,HKt.out])
 have _u:=(⟨hf0,h1,h3⟩:_∧_∧_)
 clear _u hf0 h1 h3
 refine (lI g A l.length c first ⟨at_,bad⟩ w5 H5.out.1 11).mono ?_
 rintro r w6 ⟨rfl,hrd6,hs6⟩
 have hK8:=H5.out.2.2.2.2
 obtain ⟨⟨y0,y1,y2,y3⟩,g0,g1,g2,g3⟩:=aK (hs6.heap (by simp;omega) H5.out.2.1)
 have H6:=hj_ hrd6 hs6
 have HK8:=hid hK8
 clear hrd6 hs6 hK8
 go_wp2_with fail
 refine L_ (v:=eJ eD none 0) (by simp [results,results173,go_sem, *] <;> exact ⟨rfl,rfl,rfl,rfl⟩) rfl ?_
 have hK8:=HK8.out
 exact dV (P:=fun k=>k≤K8) (fun k hk=>by show k≤K8;omega) le_ (cR.leaf rfl) H6.out.1 (H5.out.2.2.2.1.then_ H6.out.2) (by omega) hg _ _ _ _
theorem Rg (l g A c first) (hlc:l.length≤c) (hf0:-9223372036854775808≤first) (at_ w) (hb:qM w g A l.length c first ⟨at_,0⟩) (hr:cN.Row [g] w A l) (h1:first≤at_) (h3:at_≤first+64) (hisp:iR l 2 3 ⟨at_,0⟩=none) (n a x) (ht:aE l at_=⟨2,x,n,a⟩) (sp) (hpp:aT first ⟨at_,0⟩=(false,sp)) :
  Calls prog 173 #[.pointer (some ⟨g,0,none⟩)] w (eO g A l.length c first (eD,sp) w):=by
 have HR:=hid hr
 have hg:=aC hb
 obtain ⟨wr,hw2,hb2,q5⟩:=alo_ w (.cells #[.int .i64 0,.int .i64 0,.string ⟨#[]⟩,.slice none 0 0] 41 (0,0))
 have q3:=hb.same hb2
 have q4:Same [g] w wr:=Same.of_below hb2
 obtain ⟨K8,hK8⟩:=nm_ w.heap.size
 have HIS:=eL l g A c first ⟨at_,0⟩ wr q3 (HR.out.keep q4) hlc 2 3 (by omega) (by omega) (by omega)
 rw [hK8] at q5
 have Q:=hk_ q3 q4 q5
 rw [hisp] at HIS
 have HHIS:=hid HIS
 have HW2:=hj_ hw2 hK8
 have HT:=hid ht
 have hmx:=hr.1
 clear HIS q3 q4 q5 hb2 hw2 hK8 hb hr hisp ht
 go_enter func173,ntmps173
 go_wp2_with (rw [HW2.out.1,HW2.out.2];refine HHIS.out.mono ?_;rintro r w3 ⟨rfl,hb3⟩;have HB3:=hid hb3;clear hb3)
 refine (bT l g A c first ⟨at_,0⟩ w3 (Q.out.1.same HB3.out) ((HR.out.keep Q.out.2.1).keep (Same.of_below HB3.out)) hlc).mono ?_
 rw [show aE l (St.mk at_ 0).at_=⟨2,x,n,a⟩ from HT.out]
 rintro r w4 ⟨rfl,hb4⟩
 obtain ⟨w5,hw5⟩:=nm_ (w4.alloc (.cells #[.int .i64 2,.string x,.int .i64 n,.int .i64 a] 60 (0,0)))
 have hb35:Below w3.heap.size w3 w5:=hb4.trans (hw5▸(J_ _ _).alloc hb4.size _)
 have hb5:Below wr.heap.size wr w5:=HB3.out.trans (hb35.mono HB3.out.size)
 have ht5:w5.heap[w4.heap.size]? = some (.cells #[.int .i64 2,.string x,.int .i64 n,.int .i64 a] 60 (0,0)):=hw5▸I_ _ _
 have hrd5:=Q.out.1.same hb5
 have hz5:=bp_ hb5 Q.out.2.2
 obtain ⟨⟨t0,t1,t2,t3⟩,_⟩:=aK ht5
 obtain ⟨⟨_,_,_,r3⟩,_⟩:=aK hrd5
 obtain ⟨⟨z0,z1,z2,z3⟩,f0,f1,f2,f3⟩:=aK hz5
 have hgt:g<w4.heap.size:=by have h1:=hb4.size;have h2:=HB3.out.size;have h3:=aC Q.out.1;omega
 have H5:=hm_ hrd5 hz5 ht5 (Q.out.2.1.below_ hb5) HW2.out.2
 have HW5:=hid hw5
 obtain ⟨Kt,hKt⟩:=nm_ w4.heap.size
 rw [hKt] at t0 t1 t2 t3 H5 hgt
 have HKt:=hid hKt
 clear hb35 hb5 hb4 hrd5 hz5 ht5 hw5 hKt
 go_wp2_with (rw [HW5.out,HKt.out])
 have hin:=(fS (l:=l) (i:=at_) (by rw [HT.out];show (2:Int)≠0;decide)).2
 refine (cW g A l.length c first ⟨at_,0⟩ w5 H5.out.1 h1 h3 (by show at_<_;omega) hf0).mono ?_
 rw [hpp]
 rintro r w6 ⟨rfl,hrd6,hs6⟩
 have hK8:=H5.out.2.2.2.2
 obtain ⟨⟨y0,y1,y2,y3⟩,g0,g1,g2,g3⟩:=aK (hs6.heap (by simp;omega) H5.out.2.1)
 obtain ⟨⟨u0,u1,u2,u3⟩,_⟩:=aK (hs6.heap (k:=Kt) (by simp;omega) H5.out.2.2.1)
 have H6:=hj_ hrd6 hs6
 have HK8:=hid hK8
 clear hrd6 hs6 hK8
 go_wp2_with fail
 refine L_ (v:=eJ eD none 0) (by simp [results,results173,go_sem,Ex.op,Ex.n,Ex.name,Ex.kids, *] <;> exact ⟨rfl,rfl,rfl,rfl⟩) rfl ?_
 have hK8:=HK8.out
 exact dV (P:=fun k=>k≤K8) (fun k hk=>by show k≤K8;omega) le_ (cR.leaf rfl) H6.out.1 (H5.out.2.2.2.1.then_ H6.out.2) (by omega) hg _ _ _ _
theorem Na (l g A c first) (hlc:l.length≤c) (hf0:-9223372036854775808≤first) (at_ w) (hb:qM w g A l.length c first ⟨at_,0⟩) (hr:cN.Row [g] w A l) (h1:first≤at_) (h3:at_≤first+64) (hisp:iR l 2 3 ⟨at_,0⟩=none) (n a x) (ht:aE l at_=⟨1,x,n,a⟩) (sp) (hpp:aT first ⟨at_,0⟩=(false,sp)) :
  Calls prog 173 #[.pointer (some ⟨g,0,none⟩)] w (eO g A l.length c first (eD,sp) w):=by
 have HR:=hid hr
 have hg:=aC hb
 obtain ⟨wr,hw2,hb2,q5⟩:=alo_ w (.cells #[.int .i64 0,.int .i64 0,.string ⟨#[]⟩,.slice none 0 0] 41 (0,0))
 have q3:=hb.same hb2
 have q4:Same [g] w wr:=Same.of_below hb2
 obtain ⟨K8,hK8⟩:=nm_ w.heap.size
 have HIS:=eL l g A c first ⟨at_,0⟩ wr q3 (HR.out.keep q4) hlc 2 3 (by omega) (by omega) (by omega)
 rw [hK8] at q5
 have Q:=hk_ q3 q4 q5
 rw [hisp] at HIS
 have HHIS:=hid HIS
 have HW2:=hj_ hw2 hK8
 have HT:=hid ht
 have hmx:=hr.1
 clear HIS q3 q4 q5 hb2 hw2 hK8 hb hr hisp ht
 go_enter func173,ntmps173
 go_wp2_with (rw [HW2.out.1,HW2.out.2];refine HHIS.out.mono ?_;rintro r w3 ⟨rfl,hb3⟩;have HB3:=hid hb3;clear hb3)
 refine (bT l g A c first ⟨at_,0⟩ w3 (Q.out.1.same HB3.out) ((HR.out.keep Q.out.2.1).keep (Same.of_below HB3.out)) hlc).mono ?_
 rw [show aE l (St.mk at_ 0).at_=⟨1,x,n,a⟩ from HT.out]
 rintro r w4 ⟨rfl,hb4⟩
 obtain ⟨w5,hw5⟩:=nm_ (w4.alloc (.cells #[.int .i64 1,.string x,.int .i64 n,.int .i64 a] 60 (0,0)))
 have hb35:Below w3.heap.size w3 w5:=hb4.trans (hw5▸(J_ _ _).alloc hb4.size _)
 have hb5:Below wr.heap.size wr w5:=HB3.out.trans (hb35.mono HB3.out.size)
 have ht5:w5.heap[w4.heap.size]? = some (.cells #[.int .i64 1,.string x,.int .i64 n,.int .i64 a] 60 (0,0)):=hw5▸I_ _ _
 have hrd5:=Q.out.1.same hb5
 have hz5:=bp_ hb5 Q.out.2.2
 obtain ⟨⟨t0,t1,t2,t3⟩,_⟩:=aK ht5
 obtain ⟨⟨_,_,_,r3⟩,_⟩:=aK hrd5
 obtain ⟨⟨z0,z1,z2,z3⟩,f0,f1,f2,f3⟩:=aK hz5
 have hgt:g<w4.heap.size:=by have h1:=hb4.size;have h2:=HB3.out.size;have h3:=aC Q.out.1;omega
 have H5:=hm_ hrd5 hz5 ht5 (Q.out.2.1.below_ hb5) HW2.out.2
 have HW5:=hid hw5
 obtain ⟨Kt,hKt⟩:=nm_ w4.heap.size
 rw [hKt] at t0 t1 t2 t3 H5 hgt
 have HKt:=hid hKt
 clear hb35 hb5 hb4 hrd5 hz5 ht5 hw5 hKt
 go_wp2_with (rw [HW5.out,HKt.out])
 have hin:=(fS (l:=l) (i:=at_) (by rw [HT.out];show (1:Int)≠0;decide)).2
 refine (cW g A l.length c first ⟨at_,0⟩ w5 H5.out.1 h1 h3 (by show at_<_;omega) hf0).mono ?_
 rw [hpp]
 rintro r w6 ⟨rfl,hrd6,hs6⟩
 have hK8:=H5.out.2.2.2.2
 obtain ⟨⟨y0,y1,y2,y3⟩,g0,g1,g2,g3⟩:=aK (hs6.heap (by simp;omega) H5.out.2.1)
 obtain ⟨⟨u0,u1,u2,u3⟩,_⟩:=aK (hs6.heap (k:=Kt) (by simp;omega) H5.out.2.2.1)
 have H6:=hj_ hrd6 hs6
 have HK8:=hid hK8
 clear hrd6 hs6 hK8
 go_wp2_with fail
 refine L_ (v:=eJ eD none 0) (by simp [results,results173,go_sem,Ex.op,Ex.n,Ex.name,Ex.kids, *] <;> exact ⟨rfl,rfl,rfl,rfl⟩) rfl ?_
 have hK8:=HK8.out
 exact dV (P:=fun k=>k≤K8) (fun k hk=>by show k≤K8;omega) le_ (cR.leaf rfl) H6.out.1 (H5.out.2.2.2.1.then_ H6.out.2) (by omega) hg _ _ _ _
theorem Rh (l g A c first) (hlc:l.length≤c) (hf0:-9223372036854775808≤first) (at_ w) (hb:qM w g A l.length c first ⟨at_,0⟩) (hr:cN.Row [g] w A l) (h1:first≤at_) (h3:at_≤first+64) (hisp:iR l 2 3 ⟨at_,0⟩=none) (n a x) (ht:aE l at_=⟨4,x,n,a⟩) (hx:dK x ⟨#[40]⟩=true) (sp) (hpp:aT first ⟨at_,0⟩=(false,sp)) :
  Calls prog 173 #[.pointer (some ⟨g,0,none⟩)] w (eO g A l.length c first (eD,sp) w):=by
 have HR:=hid hr
 have hg:=aC hb
 obtain ⟨wr,hw2,hb2,q5⟩:=alo_ w (.cells #[.int .i64 0,.int .i64 0,.string ⟨#[]⟩,.slice none 0 0] 41 (0,0))
 have q3:=hb.same hb2
 have q4:Same [g] w wr:=Same.of_below hb2
 obtain ⟨K8,hK8⟩:=nm_ w.heap.size
 have HIS:=eL l g A c first ⟨at_,0⟩ wr q3 (HR.out.keep q4) hlc 2 3 (by omega) (by omega) (by omega)
 rw [hK8] at q5
 have Q:=hk_ q3 q4 q5
 rw [hisp] at HIS
 have HHIS:=hid HIS
 have HW2:=hj_ hw2 hK8
 have HT:=hid ht
 have hmx:=hr.1
 clear HIS q3 q4 q5 hb2 hw2 hK8 hb hr hisp ht
 have hxb:(x.toList == [40])=true:=by rw [Lib.toList_data];exact hx
 go_enter func173,ntmps173
 go_wp2_with (rw [HW2.out.1,HW2.out.2];refine HHIS.out.mono ?_;rintro r w3 ⟨rfl,hb3⟩;have HB3:=hid hb3;clear hb3)
 refine (bT l g A c first ⟨at_,0⟩ w3 (Q.out.1.same HB3.out) ((HR.out.keep Q.out.2.1).keep (Same.of_below HB3.out)) hlc).mono ?_
 rw [show aE l (St.mk at_ 0).at_=⟨4,x,n,a⟩ from HT.out]
 rintro r w4 ⟨rfl,hb4⟩
 obtain ⟨w5,hw5⟩:=nm_ (w4.alloc (.cells #[.int .i64 4,.string x,.int .i64 n,.int .i64 a] 60 (0,0)))
 have hb35:Below w3.heap.size w3 w5:=hb4.trans (hw5▸(J_ _ _).alloc hb4.size _)
 have hb5:Below wr.heap.size wr w5:=HB3.out.trans (hb35.mono HB3.out.size)
 have ht5:w5.heap[w4.heap.size]? = some (.cells #[.int .i64 4,.string x,.int .i64 n,.int .i64 a] 60 (0,0)):=hw5▸I_ _ _
 have hrd5:=Q.out.1.same hb5
 have hz5:=bp_ hb5 Q.out.2.2
 obtain ⟨⟨t0,t1,t2,t3⟩,_⟩:=aK ht5
 obtain ⟨⟨_,_,_,r3⟩,_⟩:=aK hrd5
 obtain ⟨⟨z0,z1,z2,z3⟩,f0,f1,f2,f3⟩:=aK hz5
 have hgt:g<w4.heap.size:=by have h1:=hb4.size;have h2:=HB3.out.size;have h3:=aC Q.out.1;omega
 have H5:=hm_ hrd5 hz5 ht5 (Q.out.2.1.below_ hb5) HW2.out.2
 have HW5:=hid hw5
 obtain ⟨Kt,hKt⟩:=nm_ w4.heap.size
 rw [hKt] at t0 t1 t2 t3 H5 hgt
 have HKt:=hid hKt
 clear hb35 hb5 hb4 hrd5 hz5 ht5 hw5 hKt
 go_wp2_with (rw [HW5.out,HKt.out])
 have hin:=(fS (l:=l) (i:=at_) (by rw [HT.out];show (4:Int)≠0;decide)).2
 refine (cW g A l.length c first ⟨at_,0⟩ w5 H5.out.1 h1 h3 (by show at_<_;omega) hf0).mono ?_
 rw [hpp]
 rintro r w6 ⟨rfl,hrd6,hs6⟩
 have hK8:=H5.out.2.2.2.2
 obtain ⟨⟨y0,y1,y2,y3⟩,g0,g1,g2,g3⟩:=aK (hs6.heap (by simp;omega) H5.out.2.1)
 obtain ⟨⟨u0,u1,u2,u3⟩,_⟩:=aK (hs6.heap (k:=Kt) (by simp;omega) H5.out.2.2.1)
 have H6:=hj_ hrd6 hs6
 have HK8:=hid hK8
 clear hrd6 hs6 hK8
 go_wp2_with fail
 refine L_ (v:=eJ eD none 0) (by simp [results,results173,go_sem,Ex.op,Ex.n,Ex.name,Ex.kids, *] <;> exact ⟨rfl,rfl,rfl,rfl⟩) rfl ?_
 have hK8:=HK8.out
 exact dV (P:=fun k=>k≤K8) (fun k hk=>by show k≤K8;omega) le_ (cR.leaf rfl) H6.out.1 (H5.out.2.2.2.1.then_ H6.out.2) (by omega) hg _ _ _ _
theorem Yr (l g A c first) (hlc:l.length≤c) (hf0:-9223372036854775808≤first) (at_ w) (hb:qM w g A l.length c first ⟨at_,0⟩) (hr:cN.Row [g] w A l) (h1:first≤at_) (h3:at_≤first+64) (hisp:iR l 2 3 ⟨at_,0⟩=none) (n a x) (ht:aE l at_=⟨2,x,n,a⟩) (sp) (hpp:aT first ⟨at_,0⟩=(true,sp)) :
  Calls prog 173 #[.pointer (some ⟨g,0,none⟩)] w (eO g A l.length c first (.mk 0 n ⟨#[]⟩ [],sp) w):=by
 have HR:=hid hr
 have hg:=aC hb
 obtain ⟨wr,hw2,hb2,q5⟩:=alo_ w (.cells #[.int .i64 0,.int .i64 0,.string ⟨#[]⟩,.slice none 0 0] 41 (0,0))
 have q3:=hb.same hb2
 have q4:Same [g] w wr:=Same.of_below hb2
 obtain ⟨K8,hK8⟩:=nm_ w.heap.size
 have HIS:=eL l g A c first ⟨at_,0⟩ wr q3 (HR.out.keep q4) hlc 2 3 (by omega) (by omega) (by omega)
 rw [hK8] at q5
 have Q:=hk_ q3 q4 q5
 rw [hisp] at HIS
 have HHIS:=hid HIS
 have HW2:=hj_ hw2 hK8
 have HT:=hid ht
 have hmx:=hr.1
 clear HIS q3 q4 q5 hb2 hw2 hK8 hb hr hisp ht
 go_enter func173,ntmps173
 go_wp2_with (rw [HW2.out.1,HW2.out.2];refine HHIS.out.mono ?_;rintro r w3 ⟨rfl,hb3⟩;have HB3:=hid hb3;clear hb3)
 refine (bT l g A c first ⟨at_,0⟩ w3 (Q.out.1.same HB3.out) ((HR.out.keep Q.out.2.1).keep (Same.of_below HB3.out)) hlc).mono ?_
 rw [show aE l (St.mk at_ 0).at_=⟨2,x,n,a⟩ from HT.out]
 rintro r w4 ⟨rfl,hb4⟩
 obtain ⟨w5,hw5⟩:=nm_ (w4.alloc (.cells #[.int .i64 2,.string x,.int .i64 n,.int .i64 a] 60 (0,0)))
 have hb35:Below w3.heap.size w3 w5:=hb4.trans (hw5▸(J_ _ _).alloc hb4.size _)
 have hb5:Below wr.heap.size wr w5:=HB3.out.trans (hb35.mono HB3.out.size)
 have ht5:w5.heap[w4.heap.size]? = some (.cells #[.int .i64 2,.string x,.int .i64 n,.int .i64 a] 60 (0,0)):=hw5▸I_ _ _
 have hrd5:=Q.out.1.same hb5
 have hz5:=bp_ hb5 Q.out.2.2
 obtain ⟨⟨t0,t1,t2,t3⟩,_⟩:=aK ht5
 obtain ⟨⟨_,_,_,r3⟩,_⟩:=aK hrd5
 obtain ⟨⟨z0,z1,z2,z3⟩,f0,f1,f2,f3⟩:=aK hz5
 have hgt:g<w4.heap.size:=by have h1:=hb4.size;have h2:=HB3.out.size;have h3:=aC Q.out.1;omega
 have H5:=hm_ hrd5 hz5 ht5 (Q.out.2.1.below_ hb5) HW2.out.2
 have HW5:=hid hw5
 obtain ⟨Kt,hKt⟩:=nm_ w4.heap.size
 rw [hKt] at t0 t1 t2 t3 H5 hgt
 have HKt:=hid hKt
 clear hb35 hb5 hb4 hrd5 hz5 ht5 hw5 hKt
 go_wp2_with (rw [HW5.out,HKt.out])
 have hin:=(fS (l:=l) (i:=at_) (by rw [HT.out];show (2:Int)≠0;decide)).2
 refine (cW g A l.length c first ⟨at_,0⟩ w5 H5.out.1 h1 h3 (by show at_<_;omega) hf0).mono ?_
 rw [hpp]
 rintro r w6 ⟨rfl,hrd6,hs6⟩
 have hK8:=H5.out.2.2.2.2
 obtain ⟨⟨y0,y1,y2,y3⟩,g0,g1,g2,g3⟩:=aK (hs6.heap (by simp;omega) H5.out.2.1)
 obtain ⟨⟨u0,u1,u2,u3⟩,_⟩:=aK (hs6.heap (k:=Kt) (by simp;omega) H5.out.2.2.1)
 have H6:=hj_ hrd6 hs6
 have HK8:=hid hK8
 clear hrd6 hs6 hK8
 go_wp2_with fail
 refine L_ (v:=eJ (.mk 0 n ⟨#[]⟩ []) none 0) (by simp [results,results173,go_sem,Ex.op,Ex.n,Ex.name,Ex.kids, *] <;> exact ⟨rfl,rfl,rfl,rfl⟩) rfl ?_
 have hK8:=HK8.out
 exact dV (P:=fun k=>k≤K8) (fun k hk=>by show k≤K8;omega) le_ (cR.leaf rfl) H6.out.1 (H5.out.2.2.2.1.then_ H6.out.2) (by omega) hg _ _ _ _
theorem Vs (l g A c first) (hlc:l.length≤c) (hf0:-9223372036854775808≤first) (at_ w) (hb:qM w g A l.length c first ⟨at_,0⟩) (hr:cN.Row [g] w A l) (h1:first≤at_) (h3:at_≤first+64) (hisp:iR l 2 3 ⟨at_,0⟩=none) (n a x) (ht:aE l at_=⟨1,x,n,a⟩) (sp) (hpp:aT first ⟨at_,0⟩=(true,sp)) :
  Calls prog 173 #[.pointer (some ⟨g,0,none⟩)] w (eO g A l.length c first (.mk 1 0 x [],sp) w):=by
 have HR:=hid hr
 have hg:=aC hb
 obtain ⟨wr,hw2,hb2,q5⟩:=alo_ w (.cells #[.int .i64 0,.int .i64 0,.string ⟨#[]⟩,.slice none 0 0] 41 (0,0))
 have q3:=hb.same hb2
 have q4:Same [g] w wr:=Same.of_below hb2
 obtain ⟨K8,hK8⟩:=nm_ w.heap.size
 have HIS:=eL l g A c first ⟨at_,0⟩ wr q3 (HR.out.keep q4) hlc 2 3 (by omega) (by omega) (by omega)
 rw [hK8] at q5
 have Q:=hk_ q3 q4 q5
 rw [hisp] at HIS
 have HHIS:=hid HIS
 have HW2:=hj_ hw2 hK8
 have HT:=hid ht
 have hmx:=hr.1
 clear HIS q3 q4 q5 hb2 hw2 hK8 hb hr hisp ht
 go_enter func173,ntmps173
 go_wp2_with (rw [HW2.out.1,HW2.out.2];refine HHIS.out.mono ?_;rintro r w3 ⟨rfl,hb3⟩;have HB3:=hid hb3;clear hb3)
 refine (bT l g A c first ⟨at_,0⟩ w3 (Q.out.1.same HB3.out) ((HR.out.keep Q.out.2.1).keep (Same.of_below HB3.out)) hlc).mono ?_
 rw [show aE l (St.mk at_ 0).at_=⟨1,x,n,a⟩ from HT.out]
 rintro r w4 ⟨rfl,hb4⟩
 obtain ⟨w5,hw5⟩:=nm_ (w4.alloc (.cells #[.int .i64 1,.string x,.int .i64 n,.int .i64 a] 60 (0,0)))
 have hb35:Below w3.heap.size w3 w5:=hb4.trans (hw5▸(J_ _ _).alloc hb4.size _)
 have hb5:Below wr.heap.size wr w5:=HB3.out.trans (hb35.mono HB3.out.size)
 have ht5:w5.heap[w4.heap.size]? = some (.cells #[.int .i64 1,.string x,.int .i64 n,.int .i64 a] 60 (0,0)):=hw5▸I_ _ _
 have hrd5:=Q.out.1.same hb5
 have hz5:=bp_ hb5 Q.out.2.2
 obtain ⟨⟨t0,t1,t2,t3⟩,_⟩:=aK ht5
 obtain ⟨⟨_,_,_,r3⟩,_⟩:=aK hrd5
 obtain ⟨⟨z0,z1,z2,z3⟩,f0,f1,f2,f3⟩:=aK hz5
 have hgt:g<w4.heap.size:=by have h1:=hb4.size;have h2:=HB3.out.size;have h3:=aC Q.out.1;omega
 have H5:=hm_ hrd5 hz5 ht5 (Q.out.2.1.below_ hb5) HW2.out.2
 have HW5:=hid hw5
 obtain ⟨Kt,hKt⟩:=nm_ w4.heap.size
 rw [hKt] at t0 t1 t2 t3 H5 hgt
 have HKt:=hid hKt
 clear hb35 hb5 hb4 hrd5 hz5 ht5 hw5 hKt
 go_wp2_with (rw [HW5.out,HKt.out])
 have hin:=(fS (l:=l) (i:=at_) (by rw [HT.out];show (1:Int)≠0;decide)).2
 refine (cW g A l.length c first ⟨at_,0⟩ w5 H5.out.1 h1 h3 (by show at_<_;omega) hf0).mono ?_
 rw [hpp]
 rintro r w6 ⟨rfl,hrd6,hs6⟩
 have hK8:=H5.out.2.2.2.2
 obtain ⟨⟨y0,y1,y2,y3⟩,g0,g1,g2,g3⟩:=aK (hs6.heap (by simp;omega) H5.out.2.1)
 obtain ⟨⟨u0,u1,u2,u3⟩,_⟩:=aK (hs6.heap (k:=Kt) (by simp;omega) H5.out.2.2.1)
 have H6:=hj_ hrd6 hs6
 have HK8:=hid hK8
 clear hrd6 hs6 hK8
 go_wp2_with fail
 refine L_ (v:=eJ (.mk 1 0 x []) none 0) (by simp [results,results173,go_sem,Ex.op,Ex.n,Ex.name,Ex.kids, *] <;> exact ⟨rfl,rfl,rfl,rfl⟩) rfl ?_
 have hK8:=HK8.out
 exact dV (P:=fun k=>k≤K8) (fun k hk=>by show k≤K8;omega) le_ (cR.leaf rfl) H6.out.1 (H5.out.2.2.2.1.then_ H6.out.2) (by omega) hg _ _ _ _
end Go.Proofs.YtgcfjkfipkfijaaGreatDoor
