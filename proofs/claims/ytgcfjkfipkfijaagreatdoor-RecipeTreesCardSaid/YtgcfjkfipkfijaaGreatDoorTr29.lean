/- Part 29 of the proof of rtrees_card; no conditions. -/
import Derived.Test.YtgcfjkfipkfijaaGreatDoorTr01
import Derived.Test.YtgcfjkfipkfijaaGreatDoorTr25
import Derived.Test.YtgcfjkfipkfijaaGreatDoorTr28
import Derived.Test.YtgcfjkfipkfijaaGreatDoorTr24
set_option maxRecDepth 100000
set_option maxHeartbeats 8000000
namespace Go.Proofs.YtgcfjkfipkfijaaGreatDoor
open Go Go.RowKit Go.Lib _root_.Go.Proofs.Tryz
theorem Ti (o):cJ o≤6:=by
 unfold cJ
 repeat' split
 all_goals omega
theorem sV (e:Ex) (A:Option Addr) (c i:Nat) (w:World) (hr:gU.Row [] w A e.kids) (hi:i<e.kids.length) (hlc:e.kids.length≤c) :
  Calls prog 127 #[eJ e A c,.int .i64 i] w fun r w'=>r=.returned (.bool (aG e.op e.kids[i].op i))∧Below w.heap.size w w':=by
 obtain ⟨ad,A',c',hA,h0,h1,h2,h3,_,_,_⟩:=Qs hr i hi
 subst hA
 obtain ⟨o1,ho1⟩:=nm_ e.op
 obtain ⟨o2,ho2⟩:=nm_ (e.kids[i].op)
 obtain ⟨L,hL⟩:=nm_ e.kids.length
 have HX:Hid (aG o1 o2 i=(decide (cJ o2<cJ o1) || (cJ o2 == cJ o1 && decide (cJ o1<6) && ((i:Int) == 1 || cJ o1 == 3)))):=rfl
 unfold eJ
 rw [ho2] at h0
 rw [ho1,ho2,hL]
 rw [hL] at hi hlc
 have hlt:=N_ w _ h0
 have hz:(i:Int)<L:=by omega
 have hz0:(0:Int)≤i:=by omega
 have hlcz:(L:Int)≤c:=by omega
 have hle:=Ti o1
 have HL1:=hid (fun W=>qA o1 W)
 have HL2:=hid (fun W=>qA o2 W)
 generalize cJ o1=l1 at HX HL1 hle
 generalize cJ o2=l2 at HX HL2
 have hw:(l2<l1∧aG o1 o2 i=true)∨(l1≤l2∧(l2 == l1)=false∧aG o1 o2 i=false)∨(l1≤l2∧(l2 == l1)=true∧(l1 != 6)=false∧aG o1 o2 i=false) ∨
   (l1≤l2∧(l2 == l1)=true∧(l1 != 6)=true∧((i:Int) == 1)=true∧aG o1 o2 i=true)∨(l1≤l2∧(l2 == l1)=true∧(l1 != 6)=true∧((i:Int) == 1)=false∧aG o1 o2 i=(l1 == 3)):=by
  rw [HX.out]
  by_cases h1:l2<l1
  ·exact .inl ⟨h1,by rw [W_ h1];rfl⟩
  ·rw [V_ h1]
   by_cases h2:l2=l1
   ·subst h2
    have hb:(l2 == l2)=true:=D_ rfl
    rw [hb]
    by_cases h3:l2=6
    ·exact .inr (.inr (.inl ⟨m_ _,rfl,tK h3,by rw [V_ (by omega)];rfl⟩))
    ·rw [W_ (show l2<6 by omega)]
     by_cases h4:(i:Int)=1
     ·exact .inr (.inr (.inr (.inl ⟨m_ _,rfl,kB h3,D_ h4,by rw [D_ h4];rfl⟩)))
     ·exact .inr (.inr (.inr (.inr ⟨m_ _,rfl,kB h3,aW h4,by rw [aW h4];rfl⟩)))
   ·rw [aW h2]
    exact .inr (.inl ⟨by omega,rfl,rfl⟩)
 clear h1 h2 h3 hr ho1 ho2 hL HX hle
 rcases hw with ⟨h1,h2⟩ | ⟨h1,h3,h2⟩ | ⟨h1,h3,h4,h2⟩ | ⟨h1,h3,h4,h5,h2⟩ | ⟨h1,h3,h4,h5,h2⟩
 all_goals
  have HX:=hid h2
  clear h2
  go_enter func127,ntmps127
  go_wp2_with fail
  refine (HL1.out _).mono ?_
  rintro r w1 ⟨rfl,rfl⟩
  go_wp2_with fail
  refine (HL2.out _).mono ?_
  rintro r w2 ⟨rfl,rfl⟩
  go_wp2_with fail
  go_ret
  exact ⟨cO HX.out.symm,(J_ _ _).alloc le_ _⟩
theorem Jf {o n nm ks most} (hm:1≤most) (h:o=0∨o=1) :
  fA (.mk o n nm ks) most=if 0<ks.length∨o=0∧(n<0∨nm.size≠0)∨o=1∧(n≠0∨gI nm=false) then -1 else most - 1:=by
 rw [fA,K_ (show ¬(most<1∨o<0∨16<o) by omega),M_ h]
theorem Jg {o n nm ks most} (hm:1≤most) (h2:2≤o) (h16:o≤16) :
  fA (.mk o n nm ks) most=if ks.length≠aX o∨n≠0∨nm.size≠0 then -1 else gH o ks 0 (most - 1):=by
 rw [fA,K_ (show ¬(most<1∨o<0∨16<o) by omega),K_ (show ¬(o=0∨o=1) by omega)]
theorem Ow (o n nm L A c most w) (h:most<1∨o<0∨16<o) :
  Calls prog 126 #[.agg #[.int .i64 o,.int .i64 n,.string nm,.slice A L c],.int .i64 most] w fun r w'=>r=.returned (.int .i64 (-1))∧Below w.heap.size w w':=by
 have h3:most<1∨(1≤most∧o<0)∨(1≤most∧0≤o∧16<o):=by omega
 clear h
 rcases h3 with h | ⟨h,h2⟩ | ⟨h,h2,h3⟩
 all_goals
  go_enter func126,ntmps126
  go_wp2_with fail
  go_ret
  exact ⟨rfl,(J_ _ _).alloc le_ _⟩
theorem Jh (o n nm ks A c most w) (hm:1≤most) (hm2:most≤64) (hop:o=0∨o=1) (hnm:nm.size≤200) (hks:ks.length≤9223372036854775807) :
  Calls prog 126 #[.agg #[.int .i64 o,.int .i64 n,.string nm,.slice A ks.length c],.int .i64 most] w fun r w'=>r=.returned (.int .i64 (fA (.mk o n nm ks) most))∧Below w.heap.size w w':=by
 have hX:=Jf (o:=o) (n:=n) (nm:=nm) (ks:=ks) hm hop
 obtain ⟨L,hL⟩:=nm_ ks.length
 rw [hL] at hX hks ⊢
 rw [hX]
 have HN:=hid (fun W=>Ov nm W (by omega))
 obtain ⟨V,hV⟩:=nm_ (gI nm)
 rw [hV] at HN ⊢
 have hLz:(L:Int)≤9223372036854775807:=by omega
 clear hX hL hV
 obtain ⟨w0,hw0,hal,hq⟩:=alo_ w (.cells #[.int .i64 o,.int .i64 n,.string nm,.slice A L c] 41 (0,0))
 have HAL:=hid hal
 have HQ:=hid hq
 have HW0:=hid hw0
 obtain ⟨⟨x0,x1,x2,x3⟩,_⟩:=cC hq
 have FIN:∀(b:Bool) (P:Prop) [Decidable P],(b=true↔P)→(if P then (-1:Int) else most - 1)=if b then -1 else most - 1:=fun b P _ h=>by
  by_cases hp:P
  ·rw [M_ hp,h.2 hp,M_ rfl]
  ·cases b
   ·rw [K_ hp];rfl
   ·exact absurd (h.1 rfl) hp
 have HF:=hid FIN
 clear hal hq hw0 FIN
 have hwhy:(((L:Int) != 0)=true)∨(((L:Int) != 0)=false∧o=0∧n<0)∨(((L:Int) != 0)=false∧o=0∧0≤n∧nm.size≠0)∨(((L:Int) != 0)=false∧o=0∧0≤n∧nm.size=0) ∨
   (((L:Int) != 0)=false∧o=1∧V=false)∨(((L:Int) != 0)=false∧o=1∧V=true∧(n != 0)=true)∨(((L:Int) != 0)=false∧o=1∧V=true∧n=0):=by
  by_cases hl:L=0
  ·have hlb:((L:Int) != 0)=false:=tK (by omega)
   rcases hop with rfl | rfl
   ·by_cases hn:n<0
    ·exact .inr (.inl ⟨hlb,rfl,hn⟩)
    ·by_cases hs:nm.size=0
     ·exact .inr (.inr (.inr (.inl ⟨hlb,rfl,by omega,hs⟩)))
     ·exact .inr (.inr (.inl ⟨hlb,rfl,by omega,hs⟩))
   ·cases V
    ·exact .inr (.inr (.inr (.inr (.inl ⟨hlb,rfl,rfl⟩))))
    ·by_cases hn:n=0
     ·exact .inr (.inr (.inr (.inr (.inr (.inr ⟨hlb,rfl,rfl,hn⟩)))))
     ·exact .inr (.inr (.inr (.inr (.inr (.inl ⟨hlb,rfl,rfl,kB hn⟩)))))
  ·exact .inl (kB (by omega))
 rcases hwhy with h | ⟨h,rfl,h2⟩ | ⟨h,rfl,h2,h3⟩ | ⟨h,rfl,h2,h3⟩ | ⟨h,rfl,rfl⟩ | ⟨h,rfl,rfl,h2⟩ | ⟨h,rfl,rfl,rfl⟩
 ·have HP:Hid (0<L):=hid (by rw [bne_iff_ne] at h;omega)
  rw [HF.out true _ ⟨fun _=>.inl HP.out,fun _=>rfl⟩,M_ rfl]
  rcases hop with rfl | rfl
  all_goals
   go_enter func126,ntmps126
   go_wp2_with fail
   rw [HW0.out]
   refine (HN.out _).mono ?_
   rintro r w1 ⟨rfl,hb1⟩
   have HB1:=tm_ HAL hb1
   have hq1:=bp_ hb1 HQ.out
   clear x0 x1 x2 x3 hb1
   obtain ⟨⟨x0,x1,x2,x3⟩,_⟩:=cC hq1
   clear hq1
   go_wp2_with fail
   go_ret
   exact ⟨rfl,HB1.out⟩
 ·have HP:Hid (n<0):=hid h2
  rw [HF.out true _ ⟨fun _=>.inr (.inl ⟨rfl,.inl HP.out⟩),fun _=>rfl⟩,M_ rfl]
  go_enter func126,ntmps126
  go_wp2_with fail
  rw [HW0.out]
  refine (HN.out _).mono ?_
  rintro r w1 ⟨rfl,hb1⟩
  have HB1:=tm_ HAL hb1
  have hq1:=bp_ hb1 HQ.out
  clear x0 x1 x2 x3 hb1
  obtain ⟨⟨x0,x1,x2,x3⟩,_⟩:=cC hq1
  clear hq1
  go_wp2_with fail
  go_ret
  exact ⟨rfl,HB1.out⟩
 ·have HP:Hid (nm.size≠0):=hid h3
  rw [HF.out true _ ⟨fun _=>.inr (.inl ⟨rfl,.inr HP.out⟩),fun _=>rfl⟩,M_ rfl]
  have h4:=iX h3
  clear h3
  go_enter func126,ntmps126
  go_wp2_with fail
  rw [HW0.out]
  refine (HN.out _).mono ?_
  rintro r w1 ⟨rfl,hb1⟩
  have HB1:=tm_ HAL hb1
  have hq1:=bp_ hb1 HQ.out
  clear x0 x1 x2 x3 hb1
  obtain ⟨⟨x0,x1,x2,x3⟩,_⟩:=cC hq1
  clear hq1
  go_wp2_with fail
  go_ret
  exact ⟨rfl,HB1.out⟩
 ·have HP:Hid (¬(0<L∨(0:Int)=0∧(n<0∨nm.size≠0)∨(0:Int)=1∧(n≠0∨V=false))):=hid (by
   rw [bne_eq_false_iff_eq] at h
   rintro (e | ⟨_,e | e⟩ | ⟨e,_⟩)
   ·omega
   ·omega
   ·exact e h3
   ·cases e)
  rw [HF.out false _ ⟨fun e=>(by cases e),fun e=>absurd e HP.out⟩,K_ (by decide)]
  have h4:=hH h3
  clear h3
  go_enter func126,ntmps126
  go_wp2_with fail
  rw [HW0.out]
  refine (HN.out _).mono ?_
  rintro r w1 ⟨rfl,hb1⟩
  have HB1:=tm_ HAL hb1
  have hq1:=bp_ hb1 HQ.out
  clear x0 x1 x2 x3 hb1
  obtain ⟨⟨x0,x1,x2,x3⟩,_⟩:=cC hq1
  clear hq1
  go_wp2_with fail
  go_ret
  exact ⟨rfl,HB1.out⟩
 ·rw [HF.out true _ ⟨fun _=>.inr (.inr ⟨rfl,.inr rfl⟩),fun _=>rfl⟩,M_ rfl]
  go_enter func126,ntmps126
  go_wp2_with fail
  rw [HW0.out]
  refine (HN.out _).mono ?_
  rintro r w1 ⟨rfl,hb1⟩
  have HB1:=tm_ HAL hb1
  have hq1:=bp_ hb1 HQ.out
  clear x0 x1 x2 x3 hb1
  obtain ⟨⟨x0,x1,x2,x3⟩,_⟩:=cC hq1
  clear hq1
  go_wp2_with fail
  go_ret
  exact ⟨rfl,HB1.out⟩
 ·have HP:Hid (n≠0):=hid (bne_iff_ne.1 h2)
  rw [HF.out true _ ⟨fun _=>.inr (.inr ⟨rfl,.inl HP.out⟩),fun _=>rfl⟩,M_ rfl]
  go_enter func126,ntmps126
  go_wp2_with fail
  rw [HW0.out]
  refine (HN.out _).mono ?_
  rintro r w1 ⟨rfl,hb1⟩
  have HB1:=tm_ HAL hb1
  have hq1:=bp_ hb1 HQ.out
  clear x0 x1 x2 x3 hb1
  obtain ⟨⟨x0,x1,x2,x3⟩,_⟩:=cC hq1
  clear hq1
  go_wp2_with fail
  go_ret
  exact ⟨rfl,HB1.out⟩
 ·have HP:Hid (¬(0<L∨(1:Int)=0∧((0:Int)<0∨nm.size≠0)∨(1:Int)=1∧((0:Int)≠0∨true=false))):=hid (by
   rw [bne_eq_false_iff_eq] at h
   rintro (e | ⟨e,_⟩ | ⟨_,e | e⟩)
   ·omega
   ·cases e
   ·exact e rfl
   ·cases e)
  rw [HF.out false _ ⟨fun e=>(by cases e),fun e=>absurd e HP.out⟩,K_ (by decide)]
  go_enter func126,ntmps126
  go_wp2_with fail
  rw [HW0.out]
  refine (HN.out _).mono ?_
  rintro r w1 ⟨rfl,hb1⟩
  have HB1:=tm_ HAL hb1
  have hq1:=bp_ hb1 HQ.out
  clear x0 x1 x2 x3 hb1
  obtain ⟨⟨x0,x1,x2,x3⟩,_⟩:=cC hq1
  clear hq1
  go_wp2_with fail
  go_ret
  exact ⟨rfl,HB1.out⟩
theorem Fl (o n:Int) (nm:ByteArray) (ks:List Ex) (A:Option Addr) (c:Nat) (most:Int) (w:World) (hm:1≤most) (h2:2≤o) (h16:o≤16) (hks:ks.length≤9223372036854775807) (hbad:ks.length≠aX o∨n≠0∨nm.size≠0) :
  Calls prog 126 #[.agg #[.int .i64 o,.int .i64 n,.string nm,.slice A ks.length c],.int .i64 most] w fun r w'=>r=.returned (.int .i64 (-1))∧Below w.heap.size w w':=by
 obtain ⟨L,hL⟩:=nm_ ks.length
 rw [hL] at hks hbad ⊢
 obtain ⟨P,hP⟩:∃P:Int,(aX o:Int)=P:=⟨_,rfl⟩
 have hc:((o == 2)=true∧P=1)∨((o == 2)=false∧(o == 3)=true∧P=1)∨((o == 2)=false∧(o == 3)=false∧P=2):=by
  unfold aX at hP
  by_cases h2:o=2
  ·exact .inl ⟨D_ h2,by rw [M_ (.inl h2)] at hP;omega⟩
  ·by_cases h3:o=3
   ·exact .inr (.inl ⟨aW h2,D_ h3,by rw [M_ (.inr h3)] at hP;omega⟩)
   ·exact .inr (.inr ⟨aW h2,aW h3,by rw [K_ (by omega)] at hP;omega⟩)
 have hw:((L:Int) != P)=true∨(((L:Int) != P)=false∧(n != 0)=true)∨(((L:Int) != P)=false∧(n != 0)=false∧nm.toList.isEmpty=false):=by
  by_cases e:(L:Int)=P
  ·by_cases e2:n=0
   ·exact .inr (.inr ⟨tK e,tK e2,iX (by rcases hbad with h | h | h;exact absurd (by omega) h;exact absurd e2 h;exact h)⟩)
   ·exact .inr (.inl ⟨tK e,kB e2⟩)
  ·exact .inl (kB e)
 have b0:(o == 0)=false:=aW (by omega)
 have b1:(o == 1)=false:=aW (by omega)
 have g1:0≤o:=by omega
 have hLz:(L:Int)≤9223372036854775807:=by omega
 clear hL hP hbad h2
 rcases hc with ⟨b2,rfl⟩ | ⟨b2,b3,rfl⟩ | ⟨b2,b3,rfl⟩
 all_goals
  rcases hw with h1 | ⟨h1,h2⟩ | ⟨h1,h2,h3⟩
  all_goals
   go_enter func126,ntmps126
   go_wp2_with fail
   go_ret
   exact ⟨rfl,(J_ _ _).alloc le_ _⟩
theorem Ji (o n nm ks A c most w) (hm:1≤most) (hm2:most≤64) (h2:2≤o) (h16:o≤16) (hlen:ks.length=aX o) (hn:n=0) (hs:nm.size=0) (hr:gU.Row [] w A ks) (hlc:ks.length≤c) (ih:∀(j:Nat) (hj:j<ks.length) (A':Option Addr) (c':Nat) (m:Int) (W:World),-2≤m→m≤64→gU.Row [] W A' ks[j].kids→ks[j].kids.length≤c' →
    Calls prog 126 #[eJ ks[j] A' c',.int .i64 m] W fun r w'=>r=.returned (.int .i64 (fA ks[j] m))∧Below W.heap.size W w') :
  Calls prog 126 #[.agg #[.int .i64 o,.int .i64 n,.string nm,.slice A ks.length c],.int .i64 most] w fun r w'=>r=.returned (.int .i64 (gH o ks 0 (most - 1)))∧Below w.heap.size w w':=by
 subst hn
 obtain ⟨P,hP⟩:∃P:Int,(aX o:Int)=P:=⟨_,rfl⟩
 have hlz:(ks.length:Int)=P:=by rw [←hP];omega
 have hp1:1≤ks.length:=by
  have:aX o=1∨aX o=2:=by unfold aX;split <;> simp
  omega
 have hc:((o == 2)=true∧P=1)∨((o == 2)=false∧(o == 3)=true∧P=1)∨((o == 2)=false∧(o == 3)=false∧P=2):=by
  unfold aX at hP
  by_cases h2:o=2
  ·exact .inl ⟨D_ h2,by rw [M_ (.inl h2)] at hP;omega⟩
  ·by_cases h3:o=3
   ·exact .inr (.inl ⟨aW h2,D_ h3,by rw [M_ (.inr h3)] at hP;omega⟩)
   ·exact .inr (.inr ⟨aW h2,aW h3,by rw [K_ (by omega)] at hP;omega⟩)
 have b0:(o == 0)=false:=aW (by omega)
 have b1:(o == 1)=false:=aW (by omega)
 have g1:0≤o:=by omega
 have g4:nm.toList.isEmpty=true:=hH hs
 have g5:((ks.length:Int) != P)=false:=tK hlz
 have HIH:=hid ih
 obtain ⟨ad,rfl⟩:∃ad,A=some ad:=by
  obtain ⟨ad,e,_⟩:=hr.2 hp1
  exact ⟨ad,e⟩
 have HW:Hid (∀(W:World) (i:Nat),gU.Row [] W (some ad) ks→(h:i<ks.length)→Calls prog 127 #[.agg #[.int .i64 o,.int .i64 0,.string nm,.slice (some ad) ks.length c],.int .i64 i] W fun r w'=>r=.returned (.bool (aG o ks[i].op i))∧Below W.heap.size W w'):=
  hid (fun W i hr h=>sV (.mk o 0 nm ks) (some ad) c i W hr h hlc)
 have HROW:=hid hr
 obtain ⟨ANS,hANS⟩:=nm_ (gH o ks 0 (most - 1))
 rw [hANS]
 have HANS:=hid hANS
 have hlcz:(ks.length:Int)≤c:=by omega
 have hlen2:(ks.length:Int)≤2:=by omega
 clear ih hP hlen hr hANS h2 hs
 rcases hc with ⟨b2,rfl⟩ | ⟨b2,b3,rfl⟩ | ⟨b2,b3,rfl⟩
 all_goals
  go_enter func126,ntmps126
  go_wp2_with fail
  go_loopg [1,7] (ks.length+1) (fun k s1 s7 w'=>∃(j:Nat) (m:Int),s7=.int .i64 j∧s1=.int .i64 m∧j≤ks.length∧ks.length - j<k∧-2≤m∧m≤64 ∧
   w'.heap[w.heap.size]? = some (.cells #[.int .i64 o,.int .i64 0,.string nm,.slice (some ad) ks.length c] 41 (0,0))∧Below w.heap.size w w'∧gH o (ks.drop j) j m=ANS)
  case atStart=>exact ⟨0,_,rfl,rfl,by omega,by omega,by omega,by omega,I_ _ _,(J_ _ _).alloc le_ _,HANS.out⟩
  case round=>
   obtain ⟨j,m,rfl,rfl,hj,hjk,hm3,hm4,hbx,hbl,hans⟩:=hrel
   obtain ⟨gk,rfl⟩:=pk_ gk 1 (by omega)
   have HBX:=hid hbx
   have HBL:=hid hbl
   have HA:=hid hans
   clear hans
   by_cases hlt:j<ks.length
   ·have hltz:(j:Int)<ks.length:=by omega
    have hltp:=hltz
    rw [hlz] at hltp
    have hrow:gU.Row [] wr (some ad) ks:=HROW.out.keep (Same.of_below hbl)
    obtain ⟨A',c',x0,x1,x2,x3,hlc',hrow',_⟩:=rT hrow j hlt
    have HROWR:=hid hrow
    have HKID:=hid (HIH.out j hlt A' c' m wr hm3 hm4 hrow' hlc')
    obtain ⟨t,ht⟩:=nm_ (fA ks[j] m)
    have ht1:t≤64:=by
     rw [←ht]
     by_cases e:m<1
     ·rw [uB _ e];decide
     ·have:=(Sz (SizeOf.sizeOf ks[j]+1)).1 ks[j] (by omega) m (by omega);omega
    have ht2:-2≤t:=by rw [←ht];exact (Ta (SizeOf.sizeOf ks[j]+1)).1 ks[j] (by omega) m
    rw [ht] at HKID
    obtain ⟨b,hb⟩:=nm_ (aG o ks[j].op j)
    have HWR:=hid (fun W h=>HW.out W j h hlt)
    have h:=HA.out
    rw [dX ks j hlt,jS,ht] at h
    rw [hb] at h HWR
    have HE:=hid h
    have hadlt:=N_ wr _ x0
    obtain ⟨⟨z0,z1,z2,z3⟩,_⟩:=cC hbx
    clear h ht hb hrow hrow' hbx hbl
    go_wp2_with fail
    refine HKID.out.mono ?_
    rintro r w2 ⟨rfl,hb2⟩
    have hbx2:=bp_ hb2 HBX.out
    have HBX2:=hid hbx2
    have HBL2:=tm_ HBL hb2
    have HROW2:=hid (HROWR.out.keep (Same.of_below hb2))
    clear z0 z1 z2 z3 hb2
    obtain ⟨⟨z0,z1,z2,z3⟩,_⟩:=cC hbx2
    clear hbx2
    by_cases htn:t<0
    ·have h:=HE.out
     rw [M_ htn] at h
     have HE2:=hid h
     clear h
     go_wp2_with fail
     go_ret
     exact ⟨bU HE2.out,HBL2.out⟩
    ·have htn':0≤t:=by omega
     have h:=HE.out
     rw [K_ htn] at h
     have HE2:=hid h
     clear h htn
     go_wp2_with fail
     refine (HWR.out _ HROW2.out).mono ?_
     rintro r w3 ⟨rfl,hb3⟩
     have HBX3:=bl_ hb3 HBX2
     have HBL3:=tm_ HBL2 hb3
     clear z0 z1 z2 z3 hb3
     cases b
     ·go_wp2_with fail
      go_roundg gk
      case measure=>omega
      case rel=>exact ⟨j+1,t,by go_num,rfl,by omega,by omega,by omega,by omega,HBX3.out,HBL3.out,by have h:=HE2.out;simpa using h⟩
     ·go_wp2_with fail
      go_roundg gk
      case measure=>omega
      case rel=>exact ⟨j+1,t - 2,by go_num,by go_num,by omega,by omega,by omega,by omega,HBX3.out,HBL3.out,by have h:=HE2.out;simpa using h⟩
   ·have hge:(ks.length:Int)≤j:=by omega
    have hgep:=hge
    rw [hlz] at hgep
    have h:=HA.out
    rw [List.drop_of_length_le (by omega),xH] at h
    have HE:=hid h
    clear h hbx hbl
    go_wp2_with fail
    go_ret
    exact ⟨bU HE.out,HBL.out⟩
theorem Ox (N):∀(e:Ex) (A:Option Addr) (c:Nat) (most:Int) (w:World),SizeOf.sizeOf e<N→gU.Row [] w A e.kids→e.kids.length≤c→Jb e→-2≤most→most≤64 →
  Calls prog 126 #[eJ e A c,.int .i64 most] w fun r w'=>r=.returned (.int .i64 (fA e most))∧Below w.heap.size w w':=by
 induction N with
 | zero=>intro e A c most w h;omega
 | succ N ih=>
  intro e A c most w hN hr hlc hk h0 hm
  obtain ⟨o,n,nm,ks⟩:=e
  have hks:ks.length≤9223372036854775807:=hr.1
  by_cases hout:most<1∨o<0∨16<o
  ·rw [fA,M_ hout]
   exact Ow o n nm ks.length A c most w hout
  ·by_cases hop:o=0∨o=1
   ·exact Jh o n nm ks A c most w (by omega) hm hop hk.name hks
   ·rw [Jg (by omega) (by omega) (by omega)]
    by_cases hbad:ks.length≠aX o∨n≠0∨nm.size≠0
    ·rw [M_ hbad]
     exact Fl o n nm ks A c most w (by omega) (by omega) (by omega) hks hbad
    ·rw [K_ hbad]
     refine Ji o n nm ks A c most w (by omega) hm (by omega) (by omega) (by omega) (by omega) (by omega) hr hlc (fun j hj A' c' m W h1 h2 h3 h4=>ih _ A' c' m W ?_ h3 h4 (hk.kids _ (g_ hj)) h1 h2)
     have h1:SizeOf.sizeOf ks[j]<SizeOf.sizeOf ks:=List.sizeOf_lt_of_mem (g_ hj)
     simp at hN
     omega
theorem Tj (e A c w) (hr:gU.Row [] w A e.kids) (hlc:e.kids.length≤c) (hk:Jb e) :
  Calls prog 117 #[eJ e A c] w fun r w'=>r=.returned (.bool (oN e))∧Below w.heap.size w w':=by
 have HC:=hid (fun W (h:gU.Row [] W A e.kids)=>Ox (SizeOf.sizeOf e+1) e A c 64 W (by omega) h hlc hk (by omega) (by omega))
 have HX:=hid (Sy e)
 obtain ⟨t,ht⟩:=nm_ (fA e 64)
 rw [ht] at HC HX
 clear ht
 have HR:=hid (hr.keep ((Same.refl [] w).alloc (.cells #[.int .i64 e.op,.int .i64 e.n,.string e.name,.slice A e.kids.length c] 41)))
 clear hr
 go_enter func117,ntmps117
 go_wp2_with (go_at_call 126;refine (HC.out _ HR.out).mono ?_;rintro r w2 ⟨rfl,hb2⟩)
 all_goals
  go_ret
  exact ⟨cO HX.out,((J_ _ _).alloc le_ _).trans (hb2.mono (by simp))⟩
end Go.Proofs.YtgcfjkfipkfijaaGreatDoor
