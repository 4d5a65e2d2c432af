/- Part 31 of the proof of rtrees_card; no conditions. -/
import Derived.Test.YtgcfjkfipkfijaaGreatDoorTr01
import Derived.Test.YtgcfjkfipkfijaaGreatDoorTr30
import Derived.Test.YtgcfjkfipkfijaaGreatDoorTr24
set_option maxRecDepth 100000
set_option maxHeartbeats 8000000
namespace Go.Proofs.YtgcfjkfipkfijaaGreatDoor
open Go Go.RowKit Go.Lib Go.Sort _root_.Go.Proofs.Tryz
theorem Pa (n:Nat) (w:World) (h1:1≤n) (hn:(n:Int)≤9223372036854775807):Calls prog 43 #[.int .i64 (-(n:Int))] w fun r w'=>r=.returned (.string (str (45::decDigits n)))∧w=w':=by
 have hlt:-(n:Int)<0:=by omega
 have hmb:(-(n:Int) == -9223372036854775808)=false:=aW (by omega)
 have hng:IntKind.i64.wrap (- -(n:Int))=n:=by rw [show - -(n:Int)=n by omega];exact IntWalk.i64_in _ (by omega)
 have hn0:(0:Int)≤n:=by omega
 have hlen:(decDigits n).length≤21:=by
  have:=itoa_length_le (n:Int) (by omega) hn
  unfold itoa at this
  rw [K_ (by omega),Int.toNat_natCast] at this
  exact this
 obtain ⟨ANS,hANS⟩:=nm_ (decDigits n)
 rw [hANS] at hlen ⊢
 have HANS:=hid hANS
 obtain ⟨D,hD⟩:=nm_ (⟨#[48,49,50,51,52,53,54,55,56,57]⟩:ByteArray)
 have hDs:(10:Int)≤D.size:=by rw [←hD];decide
 have HDP:Hid (∀d,d<10→D.extract d (d+1)=str [UInt8.ofNat (48+d)]):=hid (fun d h=>by rw [←hD];exact pF d h)
 clear hANS
 go_enter func43,ntmps43
 go_wp2_with fail
 go_loopg [0,4] (n+1) (fun k s0 s4 w'=>∃(m:Nat) (sfx:Bs),s0=.int .i64 m∧s4=.string (str sfx)∧(m:Int)≤9223372036854775807∧m<k∧decDigits m++sfx=ANS∧w'=w)
 case atStart=>exact ⟨n,[],rfl,rfl,hn,by omega,by rw [HANS.out,List.append_nil],rfl⟩
 case round=>
  obtain ⟨m,sfx,rfl,rfl,hm,hmk,hans,rfl⟩:=hrel
  obtain ⟨gk,rfl⟩:=pk_ gk 1 (by omega)
  have hm0:(0:Int)≤m:=by omega
  obtain ⟨d,hd⟩:=nm_ (m % 10)
  have hd10:d<10:=by omega
  have hdz:(m:Int).tmod 10=(d:Int):=by rw [←hd,Int.tmod_eq_emod_of_nonneg hm0];omega
  obtain ⟨q,hq⟩:=nm_ (m / 10)
  have hqz:(m:Int).tdiv 10=(q:Int):=by rw [←hq,Int.tdiv_eq_ediv_of_nonneg hm0];omega
  have hq1:(q:Int)≤922337203685477580:=by omega
  have hq0:(0:Int)≤q:=by omega
  have hd0:(0:Int)≤d:=by omega
  have hd9:(d:Int)≤9:=by omega
  have hpc:=HDP.out d hd10
  obtain ⟨j,hj⟩:=nm_ (d+1)
  have hjz:(d:Int)+1=(j:Int):=by omega
  have hdj:(d:Int)≤j:=by omega
  have hjs:(j:Int)≤D.size:=by omega
  rw [hj] at hpc
  obtain ⟨P,hP⟩:=nm_ (str [UInt8.ofNat (48+d)])
  have hPs:(P.size:Int)≤1:=by rw [←hP,bW];simp
  have hsl:sfx.length≤21:=by have:=c_ List.length hans;rw [O_] at this;omega
  obtain ⟨S,hS⟩:=nm_ (str sfx)
  have hSs:(S.size:Int)≤21:=by rw [←hS,bW];omega
  rw [hP] at hpc
  rw [hS]
  have HC:Hid (P++S=str (UInt8.ofNat (48+d)::sfx)):=hid (by rw [←hP,←hS,dC];rfl)
  have HA:=hid hans
  have HD:=hid (T_ hd hq)
  clear hP hS hans hd hq hj
  by_cases h10:m<10
  ·have hqq:q=0:=by have:=HD.out.2;omega
   have HE:Hid (UInt8.ofNat (48+d)::sfx=ANS):=hid (by
    have h:=HA.out
    have hdm:d=m:=by have:=HD.out.1;omega
    rw [decDigits_one h10] at h
    rw [hdm];exact h)
   subst hqq
   clear h10
   go_wp2_with fail
   go_ret
   exact ⟨bV (by rw [HC.out,HE.out];exact dC [45] ANS),rfl⟩
  ·have hqq:((q:Int) == 0)=false:=aW (by have:=HD.out.2;omega)
   have HE:Hid (decDigits q++(UInt8.ofNat (48+d)::sfx)=ANS):=hid (by
    have h:=HA.out
    rw [vN h10,HD.out.1,HD.out.2,p_] at h
    exact h)
   have hqm:q<m:=by have:=HD.out.2;omega
   clear h10
   go_wp2_with fail
   go_roundg gk
   case measure=>omega
   case rel=>exact ⟨q,UInt8.ofNat (48+d)::sfx,rfl,by rw [HC.out],by omega,by omega,HE.out,rfl⟩
theorem Fp (w):Calls prog 43 #[.int .i64 (-9223372036854775808)] w fun r w'=>r=.returned (.string (str (45::decDigits 9223372036854775808)))∧w=w':=by
 have e0:decDigits 9223372036854775808=decDigits 922337203685477580++[56]:=by
  rw [vN (m:=9223372036854775808) (by decide),show 9223372036854775808 / 10=922337203685477580 by decide,show UInt8.ofNat (48+9223372036854775808 % 10)=56 by decide]
 have hlen:(decDigits 9223372036854775808).length≤21:=by
  have:=Lf 922337203685477580 (by decide)
  rw [e0]
  simp
  omega
 obtain ⟨ANS,hANS⟩:=nm_ (decDigits 9223372036854775808)
 have hfst:decDigits 922337203685477580++[56]=ANS:=by rw [←hANS,e0]
 rw [hANS] at hlen ⊢
 have HF:=hid hfst
 obtain ⟨D,hD⟩:=nm_ (⟨#[48,49,50,51,52,53,54,55,56,57]⟩:ByteArray)
 have hDs:(10:Int)≤D.size:=by rw [←hD];decide
 have HDP:Hid (∀d,d<10→D.extract d (d+1)=str [UInt8.ofNat (48+d)]):=hid (fun d h=>by rw [←hD];exact pF d h)
 clear hANS hfst e0
 go_enter func43,ntmps43
 go_wp2_with fail
 go_loopg [0,4] 9223372036854775809 (fun k s0 s4 w'=>(∃(m:Nat) (sfx:Bs),s0=.int .i64 m∧s4=.string (str sfx)∧(m:Int)≤922337203685477580∧m<k∧decDigits m++sfx=ANS∧sfx≠[]∧w'=w)∨(s0=.int .i64 9223372036854775807∧s4=.string ⟨#[]⟩∧9223372036854775807<k∧w'=w))
 case atStart=>exact .inr ⟨rfl,rfl,by omega,rfl⟩
 case round=>
  rcases hrel with ⟨m,sfx,rfl,rfl,hm,hmk,hans,hne,rfl⟩ | ⟨rfl,rfl,hk,rfl⟩
  ·obtain ⟨gk,rfl⟩:=pk_ gk 1 (by omega)
   have hm0:(0:Int)≤m:=by omega
   obtain ⟨d,hd⟩:=nm_ (m % 10)
   have hd10:d<10:=by omega
   have hdz:(m:Int).tmod 10=(d:Int):=by rw [←hd,Int.tmod_eq_emod_of_nonneg hm0];omega
   obtain ⟨q,hq⟩:=nm_ (m / 10)
   have hqz:(m:Int).tdiv 10=(q:Int):=by rw [←hq,Int.tdiv_eq_ediv_of_nonneg hm0];omega
   have hq1:(q:Int)≤922337203685477580:=by omega
   have hq0:(0:Int)≤q:=by omega
   have hd0:(0:Int)≤d:=by omega
   have hd9:(d:Int)≤9:=by omega
   have hpc:=HDP.out d hd10
   obtain ⟨j,hj⟩:=nm_ (d+1)
   have hjz:(d:Int)+1=(j:Int):=by omega
   have hdj:(d:Int)≤j:=by omega
   have hjs:(j:Int)≤D.size:=by omega
   rw [hj] at hpc
   obtain ⟨P,hP⟩:=nm_ (str [UInt8.ofNat (48+d)])
   have hPs:(P.size:Int)≤1:=by rw [←hP,bW];simp
   have hsl:sfx.length≤21:=by have:=c_ List.length hans;rw [O_] at this;omega
   obtain ⟨S,hS⟩:=nm_ (str sfx)
   have hSs:(S.size:Int)≤21:=by rw [←hS,bW];omega
   have hSd:S.data.toList=sfx:=by rw [←hS];exact Ec sfx
   have hS1:S.toList.isEmpty=false:=by rw [Lib.toList_data,hSd];cases sfx with | nil=>exact absurd rfl hne | cons _ _=>rfl
   have hS2:(S.toList=[])=False:=by rw [Lib.toList_data,hSd];simp [hne]
   have hS3:(S.toList == [])=false:=by rw [Lib.toList_data,hSd];cases sfx with | nil=>exact absurd rfl hne | cons _ _=>rfl
   rw [hP] at hpc
   rw [hS]
   have HC:Hid (P++S=str (UInt8.ofNat (48+d)::sfx)):=hid (by rw [←hP,←hS,dC];rfl)
   have HA:=hid hans
   have HD:=hid (T_ hd hq)
   clear hP hS hans hd hq hj hne hSd
   by_cases h10:m<10
   ·have hqq:q=0:=by have:=HD.out.2;omega
    have HE:Hid (UInt8.ofNat (48+d)::sfx=ANS):=hid (by
     have h:=HA.out
     have hdm:d=m:=by have:=HD.out.1;omega
     rw [decDigits_one h10] at h
     rw [hdm];exact h)
    subst hqq
    clear h10
    go_wp2_with fail
    go_ret
    exact ⟨bV (by rw [HC.out,HE.out];exact dC [45] ANS),rfl⟩
   ·have hqq:((q:Int) == 0)=false:=aW (by have:=HD.out.2;omega)
    have HE:Hid (decDigits q++(UInt8.ofNat (48+d)::sfx)=ANS):=hid (by
     have h:=HA.out
     rw [vN h10,HD.out.1,HD.out.2,p_] at h
     exact h)
    have hqm:q<m:=by have:=HD.out.2;omega
    clear h10
    go_wp2_with fail
    go_roundg gk
    case measure=>omega
    case rel=>exact .inl ⟨q,UInt8.ofNat (48+d)::sfx,rfl,by rw [HC.out],by omega,by omega,HE.out,by simp,rfl⟩
  ·obtain ⟨gk,rfl⟩:=pk_ gk 1 (by omega)
   have hpc:D.extract 8 9=str [56]:=HDP.out 8 (by decide)
   have h1:(9223372036854775807:Int).tmod 10=7:=by decide
   have h2:(9223372036854775807:Int).tdiv 10=922337203685477580:=by decide
   have hjs:(9:Int)≤D.size:=by omega
   have hss:(str [56]).size=1:=rfl
   go_wp2_with fail
   go_roundg gk
   case measure=>omega
   case rel=>exact .inl ⟨922337203685477580,[56],rfl,rfl,by decide,by omega,HF.out,by simp,rfl⟩
theorem Pb (n w) (hn:oT n):Calls prog 43 #[.int .i64 n] w fun r w'=>r=.returned (.string (str (Lib.itoa n)))∧w=w':=by
 obtain ⟨h0,h1⟩:=hn
 by_cases hp:0≤n
 ·obtain ⟨m,rfl⟩:=r_ hp
  have e:Lib.itoa (m:Int)=decDigits m:=by unfold Lib.itoa;rw [K_ (by omega),Int.toNat_natCast]
  rw [e]
  exact An m w (by omega)
 ·obtain ⟨m,hm⟩:=r_ (show 0≤-n by omega)
  obtain rfl:n=-(m:Int):=by omega
  have e:Lib.itoa (-(m:Int))=45::decDigits m:=by unfold Lib.itoa;rw [M_ (by omega)];simp
  rw [e]
  by_cases hl:m=9223372036854775808
  ·subst hl
   exact Fp w
  ·exact Pa m w (by omega) (by omega)
end Go.Proofs.YtgcfjkfipkfijaaGreatDoor
namespace Go.Proofs.YtgcfjkfipkfijaaGreatDoor
open Go Go.RowKit Go.Lib _root_.Go.Proofs.Tryz
def Xh (l:List Nd) (nA:Option Addr) (nc:Nat) (wB:World) (f:Nat):Prop:=∀(k:Int) (ind:List UInt8) (L:Int) (w:World),0≤k→k<l.length→l.length - k≤f→ind.length+2*f≤1000→0≤L→L≤30→Below wB.heap.size wB w →
 Calls prog 72 #[.slice nA l.length nc,.int .i64 k,.string (str ind),.int .i64 L] w fun r w'=>r=.returned (.tuple #[.string (str (eK l f k ind L).1),.int .i64 (eK l f k ind L).2])∧Below w.heap.size w w'
def Xi (l:List Nd) (nA:Option Addr) (nc:Nat) (wB:World) (f:Nat):Prop:=∀(k:Int) (ind:List UInt8) (L:Int) (w:World),0≤k→k<l.length→l.length - k≤f+1→ind.length+2*f≤1000→0≤L→L≤30→Below wB.heap.size wB w →
 Calls prog 44 #[.slice nA l.length nc,.int .i64 k,.string (str ind),.int .i64 L] w fun r w'=>r=.returned (.tuple #[.string (str (bL l (eK l f) k ind L).1),.int .i64 (bL l (eK l f) k ind L).2])∧Below w.heap.size w w'
theorem sX {P l nA nc wB f} (hN:∀x,x∈l→qI x) (hR:aO yS P wB nA nc l) (hn:Xh l nA nc wB f):Xi l nA nc wB f:=by
 intro k ind L w h0 hk hd hi hL0 hL3 hbw
 obtain ⟨m,rfl⟩:∃m:Nat,k=m:=⟨k.toNat,by omega⟩
 have hm:m<l.length:=by omega
 obtain ⟨ad,_,rfl,_,_⟩:=hR.at_ m hm
 obtain ⟨kA,kc,uA,uc,gA,gc,eA,ec,⟨_,c1,_⟩,hkr,_,_,_,hbl⟩:=eG hR m hm
 replace c1:=(hbw.cell (p:=⟨(ad.add (m*9)).block,(ad.add (m*9)).off+1,none⟩) hbl).trans c1
 replace hbl:=Y_ hbl hbw.size
 have hnd:cE l m=l[m]:=mZ h0 hk
 have hlc:=hR.1
 have hml:=(hR.2 [] (by simp)).1
 obtain ⟨x,hx⟩:=nm_ (l[m])
 rw [hx] at hnd c1 hkr
 have hkl:=hkr.1
 have hkm:=(hkr.2 [] (by simp)).1
 have hlen:=iL hN (k:=m) hi hL0
 obtain ⟨F,hF⟩:=nm_ (bL l (eK l f) m ind L)
 rw [hF] at hlen ⊢
 unfold bL at hF
 rw [hnd] at hF
 have H:Hid (aO (aN.int .i64) P wB kA kc x.kids∧Xh l (some ad) nc wB f∧fH m l.length (fun j L=>eK l f j ind L) x.kids [] L=F):=hid ⟨hkr,hn,hF⟩
 have HB:=hid hbw
 have HNL:=hid (fun j L (h:0≤L)=>xG hN f j ind L hi h)
 have HC:Hid (w.cell? ⟨(ad.add (m*9)).block,(ad.add (m*9)).off+1,none⟩=some (.slice kA x.kids.length kc)∧(ad.add (m*9)).block<w.heap.size):=hid ⟨c1,hbl⟩
 clear hkr hR hn hF hx hnd hbw hlen c1 hbl
 go_enter func44,ntmps44
 go_wp2_with fail
 go_loopg [3,10,11] (x.kids.length+1) (fun q s3 s10 s11 wr=>∃(i:Nat) (s':List UInt8) (L':Int),s3=.int .i64 L'∧s10=.string (str s')∧s11=.int .i64 (i:Nat)∧i≤x.kids.length∧x.kids.length - i<q∧Below w.heap.size w wr∧fH m l.length (fun j L=>eK l f j ind L) (x.kids.drop i) s' L'=F∧0≤L'∧L'≤30∧(s'.length:Int)+8589934592*L'≤257698037760)
 case atStart=>exact ⟨0,[],L,rfl,rfl,rfl,h_ _,by omega,J_ _ _,by rw [List.drop_zero];exact H.out.2.2,hL0,hL3,by simp;omega⟩
 case round=>
  obtain ⟨i,s',L',rfl,rfl,rfl,hix,hiq,hb,hF,hlo,hhi,hp⟩:=hrel
  obtain ⟨gk,rfl⟩:=pk_ gk 1 (by omega)
  have c1:=(hb.cell (p:=⟨(ad.add (m*9)).block,(ad.add (m*9)).off+1,none⟩) HC.out.2).trans HC.out.1
  have hbl:=Y_ HC.out.2 hb.size
  have hi0:(0:Int)≤i:=by omega
  by_cases hlt:i<x.kids.length
  ·obtain ⟨ka,rfl,c0,hkb⟩:=dT (H.out.1.below (HB.out.trans (hb.mono HB.out.size))) i hlt
   obtain ⟨j,hj⟩:=nm_ (x.kids[i])
   have hdr:x.kids.drop i=j::x.kids.drop (i+1):=by rw [List.drop_eq_getElem_cons hlt,hj]
   rw [hj] at c0
   rw [hdr,fH] at hF
   have hiz:(i:Int)<x.kids.length:=by omega
   have HBR:=hid hb
   by_cases hc:L' - 1<0∨j≤m∨(l.length:Int)≤j
   ·rw [M_ hc] at hF
    have HF:=hid hF
    have fin:∀v,v=Value.tuple #[.string ⟨#[]⟩,.int .i64 (-1)]→(Ending.returned v)=Ending.returned (.tuple #[.string (str F.1),.int .i64 F.2]):=fun v e=>by rw [e,←HF.out];rfl
    have FIN:=hid fin
    clear hb hF hp hdr hj fin
    by_cases h1:L' - 1<0
    ·clear hc
     go_wp2_with fail
     refine L_ (v:=.tuple #[.string ⟨#[]⟩,.int .i64 (-1)]) (by simp [results,results44,go_sem, *]) rfl ?_
     exact ⟨FIN.out _ rfl,HBR.out⟩
    ·by_cases h2:j≤m
     ·clear hc
      go_wp2_with fail
      refine L_ (v:=.tuple #[.string ⟨#[]⟩,.int .i64 (-1)]) (by simp [results,results44,go_sem, *]) rfl ?_
      exact ⟨FIN.out _ rfl,HBR.out⟩
     ·have h3:(l.length:Int)≤j:=by omega
      clear hc
      go_wp2_with fail
      refine L_ (v:=.tuple #[.string ⟨#[]⟩,.int .i64 (-1)]) (by simp [results,results44,go_sem, *]) rfl ?_
      exact ⟨FIN.out _ rfl,HBR.out⟩
   ·rw [K_ hc] at hF
    rw [not_or,not_or] at hc
    obtain ⟨h1,h2,h3⟩:=hc
    have hln:=HNL.out j (L' - 1) (by omega)
    have HNC:=hid (H.out.2.1 j ind (L' - 1) wr (by omega) (by omega) (by omega) hi (by omega) (by omega) (HB.out.trans (hb.mono HB.out.size)))
    obtain ⟨t,ht⟩:=nm_ (eK l f j ind (L' - 1))
    rw [ht] at hF hln HNC
    obtain ⟨tx,tl⟩:=t
    simp only at hF HNC
    have hl1:(tx.length:Int)+8589934592*pz tl≤8589934592+8589934592*(L' - 1):=hln.1
    have hl2:tl≤L' - 1:=hln.2.1
    have hl3:-1≤tl:=hln.2.2
    have hpz:=Ah tl
    clear hb hdr hj ht hln
    by_cases h4:tl<0
    ·rw [M_ h4] at hF
     have HF:=hid hF
     clear hF hp
     go_wp2_with fail
     refine HNC.out.mono ?_
     rintro r w9 ⟨rfl,hb9⟩
     have HB9:=tm_ HBR hb9
     clear hb9
     go_wp2_with fail
     refine L_ (v:=.tuple #[.string ⟨#[]⟩,.int .i64 (-1)]) (by simp [results,results44,go_sem, *]) rfl ?_
     exact ⟨by rw [←HF.out];rfl,HB9.out⟩
    ·rw [K_ h4] at hF
     have HF:=hid hF
     rw [rK (by omega)] at hl1
     have hadd:∀W,(Op.stringOp .add (str s') (str tx)).run prog W=.ok (.string (str (s'++tx))) W:=fun W=>aM s' tx (by omega) W
     have hsz:((s'++tx).length:Int)+8589934592*tl≤257698037760:=by rw [O_];omega
     clear hF hp
     go_wp2_with fail
     refine HNC.out.mono ?_
     rintro r w9 ⟨rfl,hb9⟩
     have HB9:=tm_ HBR hb9
     clear hb9
     go_wp2_with fail
     go_roundg gk
     case measure=>omega
     case rel=>exact ⟨i+1,s'++tx,tl,rfl,rfl,by go_num,by omega,by omega,HB9.out,HF.out,by omega,by omega,hsz⟩
  ·obtain rfl:i=x.kids.length:=by omega
   rw [List.drop_length] at hF
   have hFF:(s',L')=F:=hF
   subst hFF
   have HBR:=hid hb
   clear hb hF hlo hhi hp
   go_wp2_with fail
   refine L_ (v:=.tuple #[.string (str s'),.int .i64 L']) (by simp [results,results44,go_sem, *]) rfl ?_
   exact ⟨rfl,HBR.out⟩
end Go.Proofs.YtgcfjkfipkfijaaGreatDoor
