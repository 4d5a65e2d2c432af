/- Part 30 of the proof of rtrees_card; no conditions. -/
import Derived.Test.YtgcfjkfipkfijaaGreatDoorTr01
import Derived.Test.YtgcfjkfipkfijaaGreatDoorTr23
import Derived.Test.YtgcfjkfipkfijaaGreatDoorTr16
import Derived.Test.YtgcfjkfipkfijaaGreatDoorTr29
import Derived.BigQuiet
import Derived.OwnWalk
import Derived.Deep.AppendLies
import Derived.Sort.OwnSorted
set_option maxRecDepth 100000
set_option maxHeartbeats 16000000
namespace Go.Proofs.YtgcfjkfipkfijaaGreatDoor
open Go Go.RowKit Go.Lib Go.Sort _root_.Go.Proofs.Tryz
abbrev Bs:=List UInt8
def Jj (w:World) (k:Nat) (e:Ex) (A:Option Addr) (c:Nat):Prop:=w.heap[k]? = some (.cells #[.int .i64 e.op,.int .i64 e.n,.string e.name,.slice A e.kids.length c] 41 (0,0))
theorem Jj.step {w w' k e A c} (h:Jj w k e A c) (hb:Below w.heap.size w w'):Jj w' k e A c:=bp_ hb h
theorem Jj.cells {w k e A c} (h:Jj w k e A c) :
  w.cell? ⟨k,0,none⟩=some (.int .i64 e.op)∧w.cell? ⟨k,1,none⟩=some (.int .i64 e.n)∧w.cell? ⟨k,2,none⟩=some (.string e.name)∧w.cell? ⟨k,3,none⟩=some (.slice A e.kids.length c):=
 ⟨aB h 0,aB h 1,aB h 2,aB h 3⟩
abbrev Oy (w:World) (base:Nat) (v:Value) (l:List Bs):Prop:=w.ownsRow base 9 1 v l.length (l.map encStr)
def sK:aN Bs:=aN.iso aN.str (fun x=>⟨x.toArray⟩)
theorem Zd {M w x}:sK.rep M w x [encStr x]:=rfl
theorem BD {M w A ks} (h:sK.Row M w A ks) (k) (hk:k<ks.length):∃ad,A=some ad∧w.cell? (ad.add k)=some (encStr ks[k]):=by
 obtain ⟨ad,cs,e,_,hr,hc⟩:=h.at_ k hk
 have hr':cs=[encStr ks[k]]:=hr
 subst hr'
 have:=hc 0 _ rfl
 rw [show k*sK.sz+0=k by show k*1+0=k;omega] at this
 exact ⟨ad,e,this⟩
theorem Tk {w base B b l} (h:Oy w base (.slice B l.length b) l):l.length≤b∧sK.Row [] w B l:=by
 have e:∀l:List Bs,l.flatMap (fun x=>[encStr x])=l.map encStr:=fun l=>by induction l <;> simp_all
 obtain ⟨A2,c2,e2,h2,h3⟩:=nN (d:=sK) (enc:=fun x=>[encStr x]) (fun _=>rfl) (M:=[]) (xs:=l) (v:=.slice B l.length b) (base:=base) (e:=9) (w:=w) (by rw [e];exact h) (fun k hk=>by simp at hk) (fun x _=>Zd)
 injection e2 with e2 _ e3
 subst e2 e3
 exact ⟨h2,h3⟩
end Go.Proofs.YtgcfjkfipkfijaaGreatDoor
namespace Go.Proofs.YtgcfjkfipkfijaaGreatDoor
open Go Go.RowKit Go.Lib Go.Sort _root_.Go.Proofs.Tryz
theorem pF (d) (h:d<10):(⟨#[48,49,50,51,52,53,54,55,56,57]⟩:ByteArray).extract d (d+1)=str [UInt8.ofNat (48+d)]:=by
 have:d=0∨d=1∨d=2∨d=3∨d=4∨d=5∨d=6∨d=7∨d=8∨d=9:=by omega
 rcases this with rfl | rfl | rfl | rfl | rfl | rfl | rfl | rfl | rfl | rfl <;> rfl
theorem vN {m} (h:¬m<10):decDigits m=decDigits (m / 10)++[UInt8.ofNat (48+m % 10)]:=by rw [decDigits,dif_neg h]
theorem An (n:Nat) (w:World) (hn:(n:Int)≤9223372036854775807):Calls prog 43 #[.int .i64 n] w fun r w'=>r=.returned (.string (str (decDigits n)))∧w=w':=by
 have hn0:(0:Int)≤n:=by omega
 have hlen:(decDigits n).length≤21:=by
  have:=itoa_length_le (n:Int) (by omega) hn
  unfold itoa at this
  rw [K_ (by omega),Int.toNat_natCast] at this
  exact this
 obtain ⟨ANS,hANS⟩:=nm_ (decDigits n)
 rw [hANS] at hlen ⊢
 have HANS:=hid hANS
 obtain ⟨D,hD⟩:=nm_ (⟨#[48,49,50,51,52,53,54,55,56,57]⟩:ByteArray)
 have hDs:(10:Int)≤D.size:=by rw [←hD];decide
 have HDP:Hid (∀d,d<10→D.extract d (d+1)=str [UInt8.ofNat (48+d)]):=hid (fun d h=>by rw [←hD];exact pF d h)
 clear hANS
 go_enter func43,ntmps43
 go_wp2_with fail
 go_loopg [0,4] (n+1) (fun k s0 s4 w'=>∃(m:Nat) (sfx:Bs),s0=.int .i64 m∧s4=.string (str sfx)∧(m:Int)≤9223372036854775807∧m<k∧decDigits m++sfx=ANS∧w'=w)
 case atStart=>exact ⟨n,[],rfl,rfl,hn,by omega,by rw [HANS.out,List.append_nil],rfl⟩
 case round=>
  obtain ⟨m,sfx,rfl,rfl,hm,hmk,hans,rfl⟩:=hrel
  obtain ⟨gk,rfl⟩:=pk_ gk 1 (by omega)
  have hm0:(0:Int)≤m:=by omega
  obtain ⟨d,hd⟩:=nm_ (m % 10)
  have hd10:d<10:=by omega
  have hdz:(m:Int).tmod 10=(d:Int):=by rw [←hd,Int.tmod_eq_emod_of_nonneg hm0];omega
  obtain ⟨q,hq⟩:=nm_ (m / 10)
  have hqz:(m:Int).tdiv 10=(q:Int):=by rw [←hq,Int.tdiv_eq_ediv_of_nonneg hm0];omega
  have hq1:(q:Int)≤922337203685477580:=by omega
  have hq0:(0:Int)≤q:=by omega
  have hd0:(0:Int)≤d:=by omega
  have hd9:(d:Int)≤9:=by omega
  have hpc:=HDP.out d hd10
  obtain ⟨j,hj⟩:=nm_ (d+1)
  have hjz:(d:Int)+1=(j:Int):=by omega
  have hdj:(d:Int)≤j:=by omega
  have hjs:(j:Int)≤D.size:=by omega
  rw [hj] at hpc
  obtain ⟨P,hP⟩:=nm_ (str [UInt8.ofNat (48+d)])
  have hPs:(P.size:Int)≤1:=by rw [←hP,bW];simp
  have hsl:sfx.length≤21:=by have:=c_ List.length hans;rw [O_] at this;omega
  obtain ⟨S,hS⟩:=nm_ (str sfx)
  have hSs:(S.size:Int)≤21:=by rw [←hS,bW];omega
  rw [hP] at hpc
  rw [hS]
  have HC:Hid (P++S=str (UInt8.ofNat (48+d)::sfx)):=hid (by rw [←hP,←hS,dC];rfl)
  have HA:=hid hans
  have HD:=hid (T_ hd hq)
  clear hP hS hans hd hq hj
  by_cases h10:m<10
  ·have hqq:q=0:=by have:=HD.out.2;omega
   have HE:Hid (UInt8.ofNat (48+d)::sfx=ANS):=hid (by
    have h:=HA.out
    have hdm:d=m:=by have:=HD.out.1;omega
    rw [decDigits_one h10] at h
    rw [hdm];exact h)
   subst hqq
   clear h10
   go_wp2_with fail
   go_ret
   exact ⟨bV (by rw [HC.out,HE.out]),rfl⟩
  ·have hqq:((q:Int) == 0)=false:=aW (by have:=HD.out.2;omega)
   have HE:Hid (decDigits q++(UInt8.ofNat (48+d)::sfx)=ANS):=hid (by
    have h:=HA.out
    rw [vN h10,HD.out.1,HD.out.2,p_] at h
    exact h)
   have hqm:q<m:=by have:=HD.out.2;omega
   clear h10
   go_wp2_with fail
   go_roundg gk
   case measure=>omega
   case rel=>exact ⟨q,UInt8.ofNat (48+d)::sfx,rfl,by rw [HC.out],by omega,by omega,HE.out,rfl⟩
end Go.Proofs.YtgcfjkfipkfijaaGreatDoor
namespace Go.Proofs.YtgcfjkfipkfijaaGreatDoor
open Go Go.RowKit Go.Lib Go.Sort _root_.Go.Proofs.Tryz
def Ze (o:Int):Nat→List Ex→List Bs
 | _,[]=>[]
 | i,k::ks=>oG (aG o k.op i) (aP k)::Ze o (i+1) ks
theorem sW (o i k ks):Ze o i (k::ks)=oG (aG o k.op i) (aP k)::Ze o (i+1) ks:=by rw [Ze]
theorem Ao:∀(ks:List Ex) (op i n most:Int),0≤cD op ks i n most→∀k,k∈ks→∃m,0≤bM k m
 | [],_,_,_,_,_,_,h=>by simp at h
 | x::xs,op,i,n,most,h,k,hk=>by
  rw [nS] at h
  by_cases h1:bM x (most - n)<0
  ·rw [M_ h1] at h;omega
  ·rw [K_ h1] at h
   rcases List.mem_cons.1 hk with rfl | hk
   ·exact ⟨most - n,by omega⟩
   ·by_cases h2:most<n+bM x (most - n)+(if aG op x.op i=true then 2 else 0)
    ·rw [M_ h2] at h;omega
    ·rw [K_ h2] at h
     exact Ao xs _ _ _ _ h k hk
theorem Tl {o n nm ks most} (ho:¬(o=0∨o=1)) (h:0≤bM (.mk o n nm ks) most) (k) (hk:k∈ks):∃m,0≤bM k m:=by
 rw [bM,K_ ho] at h
 split at h
 ·omega
 ·exact Ao _ _ _ _ _ h k hk
theorem Xg {n nm ks most} (h:0≤bM (.mk 0 n nm ks) most):0≤n:=by
 rw [bM,M_ (.inl rfl)] at h
 split at h
 ·omega
 ·omega
theorem Fm {o n nm a} (ho:2≤o):aP (.mk o n nm [a])=(cZ o).data.toList++oG (aG o a.op 0) (aP a):=by
 rw [aP.eq_def];simp only
 rw [K_ (by omega),K_ (by omega)]
theorem Fo {o n nm a b} (ho:2≤o):aP (.mk o n nm [a,b])=oG (aG o a.op 0) (aP a)++[32]++(cZ o).data.toList++[32]++oG (aG o b.op 1) (aP b):=by
 rw [aP.eq_def];simp only
 rw [K_ (by omega),K_ (by omega)]
theorem Cs {α:Type} {l:List α} (h:l.length=2):∃a b,l=[a,b]:=by
 match l,h with
 | [a,b],_=>exact ⟨a,b,rfl⟩
theorem Jk {w g l} (h:sK.Row [] w (some ⟨g,0,none⟩) l) (i) (hi:i<l.length):w.cell? ⟨g,i,none⟩=some (encStr l[i]):=by
 obtain ⟨ad,e,hc⟩:=BD h i hi
 injection e with e
 subst e
 have hadd:(⟨g,0,none⟩:Addr).add i=⟨g,i,none⟩:=by
  unfold Addr.add
  split <;> simp_all
 rwa [hadd] at hc
theorem Jl (o n nm A c w) (ho:o=0∨o=1) (hn:o=0→0≤n) (hf:n≤9223372036854775807) :
  Calls prog 118 #[.agg #[.int .i64 o,.int .i64 n,.string nm,.slice A 0 c]] w fun r w'=>r=.returned (.string (str (aP (.mk o n nm []))))∧Below w.heap.size w w':=by
 rcases ho with rfl | rfl
 ·obtain ⟨m,rfl⟩:=r_ (hn rfl)
  have HX:Hid (aP (.mk 0 m nm [])=decDigits m):=hid (by
   rw [aP.eq_def]
   show itoa m=_
   unfold itoa
   rw [K_ (by omega),Int.toNat_natCast])
  have HS:=hid (fun W=>An m W hf)
  go_enter func118,ntmps118
  go_wp2_with (go_at_call 43;refine (HS.out _).mono ?_;rintro e w2 ⟨rfl,rfl⟩)
  go_ret
  exact ⟨bV (by rw [HX.out]),(J_ _ _).alloc le_ _⟩
 ·have HX:Hid (aP (.mk 1 n nm [])=nm.data.toList):=by rw [aP.eq_def];exact rfl
  go_enter func118,ntmps118
  go_wp2_with fail
  go_ret
  exact ⟨bV (by rw [HX.out,dO]),(J_ _ _).alloc le_ _⟩
theorem Jm (o:Nat) (n:Int) (nm:ByteArray) (ks:List Ex) (A:Option Addr) (c:Nat) (w:World) (h2:2≤o) (h16:o<17) (hkn:ks.length=aX o) (hr:gU.Row [] w A ks) (hlc:ks.length≤c)
  (hl:∀(j:Nat) (hj:j<ks.length),(aP ks[j]).length≤18014398509481984)
  (ih:∀(j:Nat) (hj:j<ks.length) (A':Option Addr) (c':Nat) (W:World),gU.Row [] W A' ks[j].kids→ks[j].kids.length≤c' →
    Calls prog 118 #[eJ ks[j] A' c'] W fun r w'=>r=.returned (.string (str (aP ks[j])))∧Below W.heap.size W w') :
  Calls prog 118 #[.agg #[.int .i64 o,.int .i64 n,.string nm,.slice A ks.length c]] w fun r w'=>r=.returned (.string (str (aP (.mk o n nm ks))))∧Below w.heap.size w w':=by
 have HIH:=hid ih
 have HL:=hid hl
 have HKN:=hid hkn
 have hk2:ks.length≤2:=by rw [hkn];unfold aX;split <;> omega
 have hk1:1≤ks.length:=by rw [hkn];unfold aX;split <;> omega
 have hmz:(ks.length:Int)≤9223372036854775807:=by omega
 have hlcz:(ks.length:Int)≤c:=by omega
 have o0:((o:Int) == 0)=false:=aW (by omega)
 have o1:((o:Int) == 1)=false:=aW (by omega)
 obtain ⟨ANS,hANS⟩:=nm_ (Ze o 0 ks)
 have HANS:=hid hANS
 obtain ⟨w0,hw0,hb0,hq0⟩:=alo_ w (.cells #[.int .i64 o,.int .i64 n,.string nm,.slice A ks.length c] 41 (0,0))
 obtain ⟨K,hK⟩:=nm_ w.heap.size
 have HB0:=hid hb0
 have HQ0:Hid (w0.heap[K]? = some (.cells #[.int .i64 o,.int .i64 n,.string nm,.slice A ks.length c] 41 (0,0))):=hid (by rw [←hK];exact hq0)
 have HR:=hid (hr.keep (Same.of_below (M:=[]) hb0))
 have HW0:=hid hw0
 obtain ⟨⟨z0,z1,z2,z3⟩,_⟩:=cC HQ0.out
 have hlK:=aC HQ0.out
 obtain ⟨i0,hi0,hz0,hz1,hz2⟩:=info_parts gM
 clear ih hl hr hANS hb0 hq0 hw0 hkn
 go_enter func118,ntmps118
 go_wp2_with fail
 rw [HW0.out]
 clear hK
 go_loopg [3,4] (ks.length+1) (fun k s3 s4 w'=>∃(j:Nat) (out:List Bs) (B:Option Addr) (b:Nat),s4=.int .i64 j∧s3=.slice B out.length b∧j≤ks.length∧ks.length - j<k∧Oy w' w0.heap.size (.slice B out.length b) out∧Hid (out.length=j)∧out++Ze o j (ks.drop j)=ANS∧Below w0.heap.size w0 w')
 case atStart=>exact ⟨0,[],none,0,rfl,rfl,by omega,by omega,⟨rfl,.inl ⟨rfl,rfl⟩⟩,hid rfl,HANS.out,J_ _ _⟩
 case round=>
  obtain ⟨j,out,B,b,rfl,rfl,hj,hjk,hown,HOL,hans,hbl⟩:=hrel
  obtain ⟨gk,rfl⟩:=pk_ gk 1 (by omega)
  have HBL:=hid hbl
  have HO:=hid hown
  have hj0:(0:Int)≤j:=by omega
  have hol:out.length≤2:=by rw [HOL.out];omega
  have hq:=bp_ hbl HQ0.out
  clear z0 z1 z2 z3 hlK
  obtain ⟨⟨z0,z1,z2,z3⟩,_⟩:=cC hq
  have hlK:=aC hq
  have HRr:=hid (HR.out.keep (Same.of_below (M:=[]) hbl))
  clear hq hown hbl
  by_cases hlt:j<ks.length
  ·have hltz:(j:Int)<ks.length:=by omega
   obtain ⟨ad,rfl⟩:=fE HRr.out (by omega)
   obtain ⟨A',c',x0,x1,x2,x3,hlc',hrow',_⟩:=rT HRr.out j hlt
   have hadlt:=N_ wr _ x0
   rw [dX ks j hlt,sW] at hans
   have HKID:=hid (HIH.out j hlt A' c' wr hrow' hlc')
   have HWR:=hid (fun W hr=>sV (.mk o n nm ks) (some ad) c j W hr hlt hlc)
   have hlj:=HL.out j hlt
   obtain ⟨t,ht⟩:=nm_ (aP ks[j])
   obtain ⟨bw,hbw⟩:=nm_ (aG o ks[j].op j)
   have hwk:aG (Ex.mk o n nm ks).op (Ex.mk o n nm ks).kids[j].op j=bw:=hbw
   rw [hwk] at HWR
   rw [ht] at HKID hans hlj
   rw [hbw] at hans
   have HN:=hid hans
   obtain ⟨s,hs⟩:=nm_ (str t)
   have hsz:(s.size:Int)≤18014398509481984:=by rw [←hs,bW];omega
   rw [hs] at HKID
   have HS:=hid hs
   clear hans hrow' ht hbw hwk hs hlj
   go_wp2_with fail
   refine HKID.out.mono ?_
   rintro r w3 ⟨rfl,hb3⟩
   have HB3:=tm_ HBL hb3
   have HO3:=hid (iW HO.out hb3)
   clear hb3 z0 z1 z2 z3 hlK x0 x1 x2 x3 hadlt
   have hq:=bp_ HB3.out HQ0.out
   obtain ⟨⟨z0,z1,z2,z3⟩,_⟩:=cC hq
   have hlK:=aC hq
   clear hq
   go_wp2_with fail
   refine (HWR.out _ (HR.out.keep (Same.of_below (M:=[]) HB3.out))).mono ?_
   rintro r w4 ⟨rfl,hb4⟩
   have HB4:=tm_ HB3 hb4
   have HO4:=hid (iW HO3.out hb4)
   have hsz4:=HB4.out.size
   clear hb4 z0 z1 z2 z3 hlK
   cases bw
   ·have HE:Hid (encStr (oG false t)=.string s):=hid (by rw [←HS.out];rfl)
    go_wp2_with (at_builtin;refine wpList_append_lies _ (by rfl) _ _ _ (by rfl) w0.heap.size 9 i0 _ 1 16 underlying37 hi0 hz0 hz1 hz2 rfl (by omega) (.slice B out.length b) out.length (out.map encStr) (by rfl) (HO4.out.alloc _) ⟨w4.heap.size,0,none⟩ 1 1 [.string s] (by rfl) (by rfl) (World.news_of_block (cs:=#[.string s]) (t:=9) (fr:=(0,0)) (I_ w4 _)) (by simp [Value.oneCell']) (by omega) (by unfold maxLen;omega) (by omega) (by simp;omega) (w4.heap.size+1) (by simp) ?_;intro g5 cap5 v5 hown5 hgrow5 hat5 hlt5;refine Hid.out ?_)
    refine hid ?_
    have hS5:Same [] w0 v5:=((Same.of_below (M:=[]) HB4.out).alloc _).grown hgrow5 (fun k hk=>.inr (aS HO4.out k hk).1)
    have HV5:=hid hS5.below
    have HO5:Hid (Oy v5 w0.heap.size (.slice (some ⟨g5,0,none⟩) (out++[oG false t]).length cap5) (out++[oG false t])):=hid (by
     unfold Oy
     rw [f_,O_,List.map_cons,List.map_nil,HE.out]
     exact hown5)
    clear hS5 hown5 hgrow5 hat5 hlt5
    go_wp2_with fail
    go_roundg gk
    case measure=>omega
    case rel=>exact ⟨j+1,out++[oG false t],some ⟨g5,0,none⟩,cap5,by go_num,by simp,by omega,by omega,HO5.out,hid (by rw [O_,HOL.out];rfl),by rw [p_];exact HN.out,HV5.out⟩
   ·have HE:Hid (encStr (oG true t)=.string (⟨#[40]⟩++s++⟨#[41]⟩)):=hid (by
     have e1:(⟨#[40]⟩:ByteArray)=str [40]:=rfl
     have e2:(⟨#[41]⟩:ByteArray)=str [41]:=rfl
     rw [←HS.out,e1,e2,dC,dC];rfl)
    go_wp2_with (at_builtin;refine wpList_append_lies _ (by rfl) _ _ _ (by rfl) w0.heap.size 9 i0 _ 1 16 underlying37 hi0 hz0 hz1 hz2 rfl (by omega) (.slice B out.length b) out.length (out.map encStr) (by rfl) (HO4.out.alloc _) ⟨w4.heap.size,0,none⟩ 1 1 [.string (⟨#[40]⟩++s++⟨#[41]⟩)] (by rfl) (by rfl) (World.news_of_block (cs:=#[.string (⟨#[40]⟩++s++⟨#[41]⟩)]) (t:=9) (fr:=(0,0)) (I_ w4 _)) (by simp [Value.oneCell']) (by omega) (by unfold maxLen;omega) (by omega) (by simp;omega) (w4.heap.size+1) (by simp) ?_;intro g5 cap5 v5 hown5 hgrow5 hat5 hlt5;refine Hid.out ?_)
    refine hid ?_
    have hS5:Same [] w0 v5:=((Same.of_below (M:=[]) HB4.out).alloc _).grown hgrow5 (fun k hk=>.inr (aS HO4.out k hk).1)
    have HV5:=hid hS5.below
    have HO5:Hid (Oy v5 w0.heap.size (.slice (some ⟨g5,0,none⟩) (out++[oG true t]).length cap5) (out++[oG true t])):=hid (by
     unfold Oy
     rw [f_,O_,List.map_cons,List.map_nil,HE.out]
     exact hown5)
    clear hS5 hown5 hgrow5 hat5 hlt5
    go_wp2_with fail
    go_roundg gk
    case measure=>omega
    case rel=>exact ⟨j+1,out++[oG true t],some ⟨g5,0,none⟩,cap5,by go_num,by simp,by omega,by omega,HO5.out,hid (by rw [O_,HOL.out];rfl),by rw [p_];exact HN.out,HV5.out⟩
  ·have hge:(ks.length:Int)≤j:=by omega
   rw [List.drop_of_length_le (by omega),Ze,List.append_nil] at hans
   have hol1:1≤out.length:=by rw [HOL.out];omega
   have HLO:Hid (out.length=aX o):=hid (by rw [HOL.out,←HKN.out];omega)
   obtain ⟨_,hrow⟩:=Tk HO.out
   rcases HO.out.2 with ⟨_,h0⟩ | ⟨g,cap,cur,hv,_,_,hcl,_⟩
   ·omega
   ·injection hv with e1 e2 e3
    subst e1 e3
    clear e2
    have HROW:=hid hrow
    have HAN:=hid hans
    have HSG:Hid (∀W,Below wr.heap.size wr W→Calls prog 128 #[.int .i64 o] W fun e w'=>e=.returned (.string (cZ o))∧Below wr.heap.size wr w'):=hid (fun W hW=>(Ak o h2 h16 W).mono (by
     rintro r w' ⟨rfl,hb⟩
     exact ⟨rfl,hW.trans (hb.mono hW.size)⟩))
    have hsg:=mU o
    obtain ⟨s2,hs2⟩:=nm_ (cZ o)
    have hz2':(s2.size:Int)≤2:=by rw [←hs2,←aJ];omega
    have HS2:=hid hs2
    rw [hs2] at HSG
    have hLK:=bp_ HBL.out HQ0.out
    have HLK:=hid hLK
    clear hs2 hsg hrow hans hLK
    have h2i:(2:Int)≤o:=by omega
    by_cases h23:(o:Int)=2∨(o:Int)=3
    ·have hol2:out.length=1:=by rw [HLO.out];exact M_ h23
     have hkl:ks.length=1:=by rw [HKN.out];exact M_ h23
     obtain ⟨p,rfl⟩:=List.length_eq_one_iff.1 hol2
     obtain ⟨a,rfl⟩:=List.length_eq_one_iff.1 hkl
     have hp:oG (aG o a.op 0) (aP a)=p:=by
      have h:=HAN.out.trans HANS.out.symm
      rw [sW] at h
      injection h with h
      exact h.symm
     have hla:=HL.out 0 (by simp)
     obtain ⟨s1,hs1⟩:=nm_ (str p)
     have hz1':(s1.size:Int)≤18014398509481999:=by
      rw [←hs1,bW,←hp,gC]
      have:(aP a).length≤18014398509481984:=hla
      split <;> omega
     have HF:Hid (str (aP (.mk o n nm [a]))=s2++s1):=hid (by rw [Fm h2i,hp,←dC,dO,HS2.out,hs1])
     have SK:∀W,Below wr.heap.size wr W→W.cell? ⟨K,0,none⟩=some (.int .i64 o)∧W.cell? ⟨K,1,none⟩=some (.int .i64 n)∧W.cell? ⟨K,2,none⟩=some (.string nm)∧W.cell? ⟨K,3,none⟩=some (.slice A 1 c)∧W.cell? ⟨g,0,none⟩=some (.string s1)∧Hid (Below wr.heap.size wr W):=fun W hW=>by
      have hb:=bp_ hW HLK.out
      have hc:=Jk (HROW.out.keep (Same.of_below (M:=[]) hW)) 0 (by simp)
      exact ⟨(aB hb 0).trans rfl,(aB hb 1).trans rfl,(aB hb 2).trans rfl,(aB hb 3).trans rfl,by rw [←hs1];exact hc,hW⟩
     have HSK:=hid SK
     have hcat:∀W,(Op.stringOp .add s2 s1).run prog W=.ok (.string (s2++s1)) W:=fun W=>run_string_add_sum (w:=W) s2 s1 (by omega)
     clear hol2 hkl hp hla hs1 SK h23 h2i
     go_wp2_with fail
     have HBr:=hid ((J_ wr.heap.size wr).drew)
     obtain ⟨i0,i1,i2,i3,i4,i5⟩:=HSK.out _ HBr.out
     go_region_held3 (fun W=>W.cell? ⟨K,0,none⟩=some (.int .i64 o)∧W.cell? ⟨K,1,none⟩=some (.int .i64 n)∧W.cell? ⟨K,2,none⟩=some (.string nm)∧W.cell? ⟨K,3,none⟩=some (.slice A 1 c)∧W.cell? ⟨g,0,none⟩=some (.string s1)∧Hid (Below wr.heap.size wr W))
      (first | exact HSK.out _ hb | exact HSK.out _ HBr.out | go_keep)
      (first
        | (go_at_call 128;refine (HSG.out _ ?_).mono ?_;(first | exact HBr.out | assumption);rintro e w' ⟨rfl,hb⟩))
     all_goals
      go_wp2_with fail
      go_ret
      exact ⟨bV HF.out.symm,HB0.out.trans ((HBL.out.trans (hb.mono HBL.out.size)).mono HB0.out.size)⟩
    ·have hol2:out.length=2:=by rw [HLO.out];exact K_ h23
     have hkl:ks.length=2:=by rw [HKN.out];exact K_ h23
     obtain ⟨p,q,rfl⟩:=Cs hol2
     obtain ⟨a,a2,rfl⟩:=Cs hkl
     have hpq:oG (aG o a.op 0) (aP a)=p∧oG (aG o a2.op 1) (aP a2)=q:=by
      have h:=HAN.out.trans HANS.out.symm
      rw [sW,sW] at h
      injection h with h h'
      injection h' with h'
      exact ⟨h.symm,h'.symm⟩
     obtain ⟨hp,hp2⟩:=hpq
     have hla:=HL.out 0 (by simp)
     have hlb:=HL.out 1 (by simp)
     obtain ⟨s1,hs1⟩:=nm_ (str p)
     obtain ⟨s3,hs3⟩:=nm_ (str q)
     have hz1':s1.size≤18014398509481999:=by
      rw [←hs1,bW,←hp,gC]
      have:(aP a).length≤18014398509481984:=hla
      split <;> omega
     have hz3':s3.size≤18014398509481999:=by
      rw [←hs3,bW,←hp2,gC]
      have:(aP a2).length≤18014398509481984:=hlb
      split <;> omega
     have hsp:(⟨#[32]⟩:ByteArray)=str [32]:=rfl
     have HF:Hid (str (aP (.mk o n nm [a,a2]))=s1++⟨#[32]⟩++s2++⟨#[32]⟩++s3):=hid (by rw [Fo h2i,hp,hp2,←dC,←dC,←dC,←dC,dO,HS2.out,hs1,hs3,hsp])
     have SK:∀W,Below wr.heap.size wr W→W.cell? ⟨K,0,none⟩=some (.int .i64 o)∧W.cell? ⟨K,1,none⟩=some (.int .i64 n)∧W.cell? ⟨K,2,none⟩=some (.string nm)∧W.cell? ⟨K,3,none⟩=some (.slice A 2 c)∧W.cell? ⟨g,0,none⟩=some (.string s1)∧W.cell? ⟨g,1,none⟩=some (.string s3)∧Hid (Below wr.heap.size wr W):=fun W hW=>by
      have hb:=bp_ hW HLK.out
      have hc:=Jk (HROW.out.keep (Same.of_below (M:=[]) hW)) 0 (by simp)
      have hd:=Jk (HROW.out.keep (Same.of_below (M:=[]) hW)) 1 (by simp)
      exact ⟨(aB hb 0).trans rfl,(aB hb 1).trans rfl,(aB hb 2).trans rfl,(aB hb 3).trans rfl,by rw [←hs1];exact hc,by rw [←hs3];exact hd,hW⟩
     have HSK:=hid SK
     have e1:(⟨#[32]⟩:ByteArray).size=1:=rfl
     have hz2n:s2.size≤2:=by omega
     have c1:∀W,(Op.stringOp .add s1 ⟨#[32]⟩).run prog W=.ok (.string (s1++⟨#[32]⟩)) W:=fun W=>run_string_add_sum (w:=W) _ _ (by rw [e1];omega)
     have c2:∀W,(Op.stringOp .add (s1++⟨#[32]⟩) s2).run prog W=.ok (.string (s1++⟨#[32]⟩++s2)) W:=fun W=>run_string_add_sum (w:=W) _ _ (by rw [ByteArray.size_append,e1];omega)
     have c3:∀W,(Op.stringOp .add (s1++⟨#[32]⟩++s2) ⟨#[32]⟩).run prog W=.ok (.string (s1++⟨#[32]⟩++s2++⟨#[32]⟩)) W:=fun W=>run_string_add_sum (w:=W) _ _ (by rw [ByteArray.size_append,ByteArray.size_append,e1];omega)
     have c4:∀W,(Op.stringOp .add (s1++⟨#[32]⟩++s2++⟨#[32]⟩) s3).run prog W=.ok (.string (s1++⟨#[32]⟩++s2++⟨#[32]⟩++s3)) W:=fun W=>run_string_add_sum (w:=W) _ _ (by rw [ByteArray.size_append,ByteArray.size_append,ByteArray.size_append,e1];omega)
     clear hol2 hkl hp hp2 hla hlb hs1 hs3 SK h23 h2i hsp e1
     rw [show ([p,q]:List Bs).length=2 from rfl]
     rw [show ([a,a2]:List Ex).length=2 from rfl] at hge z3 hlc hlcz
     clear hol hol1 hcl hk2 hk1 hj hlt hjk h2 h16 hz2n hmz
     go_wp2_with fail
     have HBr:=hid ((J_ wr.heap.size wr).drew)
     obtain ⟨i0,i1,i2,i3,i4,i5,i6⟩:=HSK.out _ HBr.out
     go_region_held3 (fun W=>W.cell? ⟨K,0,none⟩=some (.int .i64 o)∧W.cell? ⟨K,1,none⟩=some (.int .i64 n)∧W.cell? ⟨K,2,none⟩=some (.string nm)∧W.cell? ⟨K,3,none⟩=some (.slice A 2 c)∧W.cell? ⟨g,0,none⟩=some (.string s1)∧W.cell? ⟨g,1,none⟩=some (.string s3)∧Hid (Below wr.heap.size wr W))
      (first | exact HSK.out _ hb | exact HSK.out _ HBr.out | go_keep)
      (first
        | (go_at_call 128;refine (HSG.out _ ?_).mono ?_;(first | exact HBr.out | assumption);rintro e w' ⟨rfl,hb⟩))
     all_goals
      go_wp2_with fail
      go_ret
      exact ⟨bV HF.out.symm,HB0.out.trans ((HBL.out.trans (hb.mono HBL.out.size)).mono HB0.out.size)⟩
theorem Oz (N):∀(e:Ex) (A:Option Addr) (c:Nat) (w:World),SizeOf.sizeOf e<N→gU.Row [] w A e.kids→e.kids.length≤c→dU e→Eb e→(∃m,0≤bM e m)→(aP e).length≤18014398509481984 →
  Calls prog 118 #[eJ e A c] w fun r w'=>r=.returned (.string (str (aP e)))∧Below w.heap.size w w':=by
 induction N with
 | zero=>intro e A c w h;omega
 | succ N ih=>
  intro e A c w hN hr hlc hk hs hm hl
  obtain ⟨m,hm⟩:=hm
  cases hs with
  | @leaf op n nm ks h h2=>
   subst h2
   exact Jl op n nm A c w h (fun e=>by subst e;exact Xg hm) hk.n.2
  | @node op n nm ks h1 h2 h3 h4=>
   have hno:¬(op=0∨op=1):=by omega
   obtain ⟨o,rfl⟩:=r_ (show 0≤op by omega)
   have hkl:∀(j:Nat) (hj:j<ks.length),(aP ks[j]).length≤18014398509481984:=by
    by_cases ho:(o:Int)=2∨(o:Int)=3
    ·have hp:aX o=1:=M_ ho
     obtain ⟨a,rfl⟩:∃a,ks=[a]:=List.length_eq_one_iff.1 (h3.trans hp)
     have hla:=sL (n:=n) (nm:=nm) (a:=a) hno
     intro j hj
     obtain rfl:j=0:=by simp at hj;exact hj
     exact d_ hla hl
    ·have hp:aX o=2:=K_ ho
     obtain ⟨a,b,rfl⟩:=Cs (h3.trans hp)
     have hla:=sM (n:=n) (nm:=nm) (a:=a) (b:=b) hno
     intro j hj
     have:j=0∨j=1:=by simp at hj;omega
     rcases this with rfl | rfl
     ·exact d_ hla.1 hl
     ·exact d_ hla.2 hl
   refine Jm o n nm ks A c w (by omega) (by omega) h3 hr hlc hkl (fun j hj A' c' W hr' hl'=>ih _ A' c' W ?_ hr' hl' (hk.kids _ (g_ hj)) (h4 _ (g_ hj)) (Tl hno hm _ (g_ hj)) (hkl j hj))
   have h7:SizeOf.sizeOf ks[j]<SizeOf.sizeOf ks:=List.sizeOf_lt_of_mem (g_ hj)
   simp at hN
   omega
theorem xS (e A c w) (hr:gU.Row [] w A e.kids) (hlc:e.kids.length≤c) (hk:dU e) (hn:Jb e) :
  Calls prog 104 #[eJ e A c] w fun r w'=>r=.returned (.string (str (kD e)))∧Below w.heap.size w w':=by
 have HM:=hid (fun W h=>Tj e A c W h hlc hn)
 obtain ⟨w1,hw1,hb1,_⟩:=alo_ w (.cells #[.int .i64 e.op,.int .i64 e.n,.string e.name,.slice A e.kids.length c] 41 (0,0))
 have hq1:Jj w1 w.heap.size e A c:=hw1▸I_ _ _
 obtain ⟨K,hK⟩:=nm_ w.heap.size
 have Q1:Hid (Jj w1 K e A c):=hid (by rw [←hK];exact hq1)
 have HB1:=hid hb1
 have R1:=hid (hr.keep (Same.of_below (M:=[]) hb1))
 have HW1:=hid hw1
 have HX:Hid (kD e=if oN e then aP e else []):=rfl
 cases hb:oN e
 ·rw [hb] at HM HX
  clear hr hb1 hq1 hw1 hb
  go_enter func104,ntmps104
  go_wp2_with fail
  clear hK
  rw [HW1.out]
  refine (HM.out w1 R1.out).mono ?_
  rintro r w2 ⟨rfl,hb2⟩
  have HB2:=tm_ HB1 hb2
  clear hb2
  go_wp2_with fail
  go_ret
  exact ⟨bV (by rw [HX.out];rfl),HB2.out⟩
 ·have hm:∃m,0≤bM e m:=by
   unfold oN at hb
   rw [a_,decide_eq_true_eq] at hb
   exact ⟨64,by omega⟩
  have HRK:=hid (fun W hr=>Oz (SizeOf.sizeOf e+1) e A c W (by omega) hr hlc hk (zO hb) hm (sF hk hb))
  rw [hb] at HM HX
  clear hr hb1 hq1 hw1 hb hm
  go_enter func104,ntmps104
  go_wp2_with fail
  clear hK
  rw [HW1.out]
  refine (HM.out w1 R1.out).mono ?_
  rintro r w2 ⟨rfl,hb2⟩
  have HB2:=tm_ HB1 hb2
  have R2:=hid (R1.out.keep (Same.of_below (M:=[]) hb2))
  have Q2:=hid (Q1.out.step hb2)
  obtain ⟨x0,x1,x2,x3⟩:=Q2.out.cells
  have hlK:=aC Q2.out
  clear hb2
  go_wp2_with fail
  refine (HRK.out _ R2.out).mono ?_
  rintro r w3 ⟨rfl,hb3⟩
  have HB3:=tm_ HB2 hb3
  clear x0 x1 x2 x3 hlK hb3
  go_wp2_with fail
  go_ret
  exact ⟨bV (by rw [HX.out];rfl),HB3.out⟩
end Go.Proofs.YtgcfjkfipkfijaaGreatDoor
