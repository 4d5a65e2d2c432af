/- Part 48 of the proof of rtrees_card; no conditions. -/
import Derived.Test.YtgcfjkfipkfijaaGreatDoorTr01
import Derived.Test.YtgcfjkfipkfijaaGreatDoorTr47
import Derived.Test.YtgcfjkfipkfijaaGreatDoorTr28
import Derived.BigQuiet
set_option maxRecDepth 100000
set_option maxHeartbeats 8000000
namespace Go.Proofs.YtgcfjkfipkfijaaGreatDoor
open Go Go.RowKit Go.Lib _root_.Go.Proofs.Tryz
def yO (l:List UInt8):List Int:=lT (aI l) 0
theorem Bk:∀(rs:List (Nat × Nat)) (p:Nat),(∀x,x∈rs→x≠(65533,1))→(lT rs p).length=rs.length+1
 | [],p,_=>rfl
 | r::rs,p,h=>by
  rw [lT,K_ (h r (by simp)),P_,Bk rs _ (fun x hx=>h x (by simp [hx])),P_]
theorem Gu:∀(rs:List (Nat × Nat)) (p k:Nat),(∀x,x∈rs→x≠(65533,1))→k≤rs.length→(lT rs p)[k]? = some ((p+Yo (rs.take k):Nat):Int)
 | [],p,k,_,hk=>by
  obtain rfl:k=0:=by simpa using hk
  rfl
 | r::rs,p,0,h,_=>by
  rw [lT,K_ (h r (by simp))]
  rfl
 | r::rs,p,k+1,h,hk=>by
  rw [lT,K_ (h r (by simp)),List.getElem?_cons_succ,Gu rs (p+r.2) k (fun x hx=>h x (by simp [hx])) (by simpa using hk),List.take_succ_cons,Yo,Nat.add_assoc]
theorem Mq {l} (hv:Vd l):(yO l).length=(rv l).length+1:=by rw [jI];exact Bk _ _ hv
theorem Zr {l} (hv:Vd l) {k} (h:k≤(rv l).length):(yO l)[k]? = some (bw l k:Int):=by
 have:=Gu (aI l) 0 k hv (by rwa [jI] at h)
 rwa [Nat.zero_add] at this
structure qL (w:World) (s:ByteArray) (A:Option Addr) (a:Nat) (B:Option Addr) (b:Nat):Prop where
 vd:Vd s.data.toList
 size:s.size≤8192
 r:xN.Row [] w A (rv s.data.toList)
 ra:(rv s.data.toList).length≤a
 z:xN.Row [] w B (yO s.data.toList)
 zb:(yO s.data.toList).length≤b
theorem qL.below {w w' s A B a b} (h:qL w s A a B b) (hb:Below w.heap.size w w'):qL w' s A a B b:=
 ⟨h.vd,h.size,h.r.keep (Same.of_below hb),h.ra,h.z.keep (Same.of_below hb),h.zb⟩
theorem qL.runes_le {w s A B a b} (h:qL w s A a B b):(rv s.data.toList).length≤8192:=by
 have h1:=mO s.data.toList
 rw [jI]
 rw [aJ] at h1
 have:=h.size
 omega
abbrev Bl (s:ByteArray) (A:Option Addr) (a:Nat) (B:Option Addr) (b:Nat):Value:=.agg #[.string s,.slice A (rv s.data.toList).length a,.slice B (yO s.data.toList).length b]
theorem Kk {c cs} (h:dJ c=6):bI false (c::cs)=bI true (c::cs):=by
 have:=pL h
 simp only [bI]
 rw [M_ h,K_ (by omega)]
theorem Kl (cs):bI true (10::cs)=bI false (10::cs):=by
 rw [show bI true (10::cs)=1+bI false cs from M_ rfl,show bI false (10::cs)=1+bI false cs from (K_ (by decide)).trans (M_ (by decide))]
theorem nH (r w):Calls prog 87 #[.int .i64 r] w fun e w'=>e=.returned (.int .i64 (dJ r))∧w=w':=(rL r w).mono (fun _ _ h=>⟨h.1,h.2.symm⟩)
theorem Uv (r w):Calls prog 109 #[.int .i64 r] w fun e w'=>e=.returned (.bool (qJ r))∧w=w':=(xJ r w).mono (fun _ _ h=>⟨h.1,h.2.symm⟩)
theorem Qh (s A a B b i w) (h:qL w s A a B b) (hi:i≤(rv s.data.toList).length) :
  Calls prog 58 #[Bl s A a B b,.int .i64 i] w fun r w'=>r=.returned (.int .i64 ((i+bI false ((rv s.data.toList).drop i):Nat):Int))∧Below w.heap.size w w':=by
 have hn:=h.runes_le
 have hra:=h.ra
 have HR:=hid h.r
 unfold Bl
 generalize rv s.data.toList=R at *
 generalize (yO s.data.toList).length=L2
 obtain ⟨ANS,hANS⟩:=nm_ (i+bI false (R.drop i))
 rw [hANS]
 have HANS:=hid hANS
 have hnz:(R.length:Int)≤8192:=by omega
 have hraz:(R.length:Int)≤a:=by omega
 obtain ⟨w0,hw0,hb0,_⟩:=alo_ w (.cells #[.string s,.slice A R.length a,.slice B L2 b] 99 (0,0))
 have hq:xO w0 w.heap.size s (.slice A R.length a) (.slice B L2 b):=hw0▸I_ _ _
 obtain ⟨⟨y0,y1,y2⟩,_⟩:=iN hq
 have HR0:=hid (HR.out.keep (Same.of_below (M:=[]) hb0))
 have HB0:=hid hb0
 have hlq:=aC hq
 have HW0:=hid hw0
 clear hANS hb0 hq hw0 h
 go_enter func58,ntmps58
 go_wp2_with fail
 rw [HW0.out]
 go_loopg [1] (R.length+1) (fun k s1 w'=>∃j:Nat,s1=.int .i64 j∧j≤R.length∧R.length - j<k∧j+bI false (R.drop j)=ANS∧w'=w0)
 case atStart=>exact ⟨i,rfl,hi,by omega,HANS.out,rfl⟩
 case round=>
  obtain ⟨j,rfl,hj,hjk,hans,rfl⟩:=hrel
  obtain ⟨go,rfl⟩:=pk_ gk 1 (by omega)
  have hj0:(0:Int)≤j:=by omega
  by_cases hlt:j<R.length
  ·have hltz:(j:Int)<R.length:=by omega
   obtain ⟨ad,rfl⟩:=fE HR0.out (by omega)
   obtain ⟨ad',e0,x0⟩:=iM HR0.out j hlt
   injection e0 with e0
   subst e0
   have hlt2:=N_ wr _ x0
   rw [dX R j hlt] at hans
   obtain ⟨r,hr⟩:=nm_ (R[j])
   rw [hr] at x0 hans
   have HRJ:=hid hr
   have HC:=hid (fun W=>nH r W)
   obtain ⟨c,hc⟩:=nm_ (dJ r)
   rw [hc] at HC
   have HCC:=hid hc
   have HN:=hid hans
   clear hans hc hr
   by_cases h6:c=6
   ·subst h6
    have h35:=pL HCC.out
    have HNE:Hid (r≠10):=hid (by omega)
    clear h35
    go_wp2_with (go_at_call 87;refine (HC.out _).mono ?_;rintro e w' ⟨rfl,rfl⟩)
    go_loopg [1] (R.length+1) (fun k s1 w'=>∃m:Nat,s1=.int .i64 m∧j≤m∧m≤R.length∧R.length - m<k∧m+bI true (R.drop m)=ANS∧w'=wr)
    case atStart=>exact ⟨j,rfl,H_ _,by omega,by omega,by have:=HN.out;rw [Kk HCC.out] at this;rw [dX R j hlt,HRJ.out];exact this,rfl⟩
    case round=>
     obtain ⟨m,rfl,hm1,hm2,hmk,hans,rfl⟩:=hrel
     obtain ⟨gi,rfl⟩:=pk_ gk 1 (by omega)
     have hm0:(0:Int)≤m:=by omega
     clear x0 hlt2
     by_cases hml:m<R.length
     ·have hmlz:(m:Int)<R.length:=by omega
      obtain ⟨ad',e0,x0⟩:=iM HR0.out m hml
      injection e0 with e0
      subst e0
      have hlt2:=N_ wr _ x0
      rw [dX R m hml] at hans
      obtain ⟨q,hq⟩:=nm_ (R[m])
      rw [hq] at x0 hans
      have HQ:=hid hq
      have HM:=hid hans
      clear hans hq
      by_cases h10:q=10
      ·subst h10
       have hgt:j<m:=by
        have hne:m≠j:=by
         rintro rfl
         exact HNE.out (HRJ.out.symm.trans HQ.out)
        omega
       go_wp2_with fail
       go_roundg go
       case measure=>omega
       case rel=>exact ⟨m,rfl,hm2,by omega,by have:=HM.out;rw [Kl,←HQ.out,←dX R m hml] at this;exact this,rfl⟩
      ·have h10b:(q != 10)=true:=kB h10
       have HN2:Hid ((m+1)+bI true (R.drop (m+1))=ANS):=hid (by
        have:=HM.out
        rw [show bI true (q::R.drop (m+1))=1+bI true (R.drop (m+1)) from K_ h10] at this
        omega)
       clear h10
       go_wp2_with fail
       go_roundg gi
       case measure=>omega
       case rel=>exact ⟨m+1,by go_num,by omega,by omega,by omega,HN2.out,rfl⟩
     ·obtain rfl:m=R.length:=by omega
      rw [List.drop_length] at hans
      have HM:=hid hans
      clear hans
      have hnl:¬((R.length:Int)<R.length):=by omega
      go_wp2_with fail
      go_roundg go
      case measure=>omega
      case rel=>exact ⟨R.length,rfl,hm2,by omega,by rw [List.drop_length];exact HM.out,rfl⟩
   ·by_cases h1:c=1
    ·subst h1
     have HN2:Hid ((j+1)+bI false (R.drop (j+1))=ANS):=hid (by
      have:=HN.out
      rw [show bI false (r::R.drop (j+1))=1+bI false (R.drop (j+1)) from (K_ (by rw [HCC.out];decide)).trans (M_ HCC.out)] at this
      omega)
     clear h6
     go_wp2_with (go_at_call 87;refine (HC.out _).mono ?_;rintro e w' ⟨rfl,rfl⟩)
     go_roundg go
     case measure=>omega
     case rel=>exact ⟨j+1,by go_num,by omega,by omega,HN2.out,rfl⟩
    ·have h6b:(c == 6)=false:=aW h6
     have h1b:(c != 1)=true:=kB h1
     have HN2:Hid (j=ANS):=hid (by
      have:=HN.out
      rw [show bI false (r::R.drop (j+1))=0 from (K_ (by rw [HCC.out];exact h6)).trans (K_ (by rw [HCC.out];exact h1))] at this
      omega)
     clear h6 h1
     go_wp2_with (go_at_call 87;refine (HC.out _).mono ?_;rintro e w' ⟨rfl,rfl⟩)
     go_ret
     exact ⟨bU (by rw [HN2.out]),HB0.out⟩
  ·obtain rfl:j=R.length:=by omega
   rw [List.drop_length] at hans
   have HN2:Hid (R.length=ANS):=hid (by simpa [bI] using hans)
   clear hans
   have hnl:¬((R.length:Int)<R.length):=by omega
   go_wp2_with fail
   go_ret
   exact ⟨bU (by rw [HN2.out]),HB0.out⟩
end Go.Proofs.YtgcfjkfipkfijaaGreatDoor
namespace Go.Proofs.YtgcfjkfipkfijaaGreatDoor
open Go Go.RowKit Go.Lib _root_.Go.Proofs.Tryz
theorem nI (s A a B b i w) (h:qL w s A a B b) (hi:i≤(rv s.data.toList).length) :
  Calls prog 88 #[Bl s A a B b,.int .i64 i] w fun r w'=>r=.returned (.int .i64 ((i+cV ((rv s.data.toList).drop i):Nat):Int))∧Below w.heap.size w w':=by
 have hn:=h.runes_le
 have hra:=h.ra
 have HR:=hid h.r
 unfold Bl
 generalize rv s.data.toList=R at *
 generalize (yO s.data.toList).length=L2
 obtain ⟨ANS,hANS⟩:=nm_ (i+cV (R.drop i))
 rw [hANS]
 have HANS:=hid hANS
 have hnz:(R.length:Int)≤8192:=by omega
 have hraz:(R.length:Int)≤a:=by omega
 obtain ⟨w0,hw0,hb0,_⟩:=alo_ w (.cells #[.string s,.slice A R.length a,.slice B L2 b] 99 (0,0))
 have hq:xO w0 w.heap.size s (.slice A R.length a) (.slice B L2 b):=hw0▸I_ _ _
 obtain ⟨⟨y0,y1,y2⟩,_⟩:=iN hq
 have HR0:=hid (HR.out.keep (Same.of_below (M:=[]) hb0))
 have HB0:=hid hb0
 have hlq:=aC hq
 have HW0:=hid hw0
 clear hANS hb0 hq hw0 h
 go_enter func88,ntmps88
 go_wp2_with fail
 rw [HW0.out]
 go_loopg [1] (R.length+1) (fun k s1 w'=>∃j:Nat,s1=.int .i64 j∧j≤R.length∧R.length - j<k∧j+cV (R.drop j)=ANS∧w'=w0)
 case atStart=>exact ⟨i,rfl,hi,by omega,HANS.out,rfl⟩
 case round=>
  obtain ⟨j,rfl,hj,hjk,hans,rfl⟩:=hrel
  obtain ⟨gk,rfl⟩:=pk_ gk 1 (by omega)
  have hj0:(0:Int)≤j:=by omega
  by_cases hlt:j<R.length
  ·have hltz:(j:Int)<R.length:=by omega
   obtain ⟨ad,rfl⟩:=fE HR0.out (by omega)
   obtain ⟨ad',e0,x0⟩:=iM HR0.out j hlt
   injection e0 with e0
   subst e0
   have hlt2:=N_ wr _ x0
   rw [dX R j hlt,cV] at hans
   obtain ⟨r,hr⟩:=nm_ (R[j])
   rw [hr] at x0 hans
   have HC:=hid (fun W=>Uv r W)
   obtain ⟨c,hc⟩:=nm_ (qJ r)
   rw [hc] at HC hans
   cases c
   ·have HN:Hid (j=ANS):=hid (by simpa using hans)
    clear hans hc hr
    go_wp2_with (go_at_call 109;refine (HC.out _).mono ?_;rintro e w' ⟨rfl,rfl⟩)
    go_ret
    exact ⟨bU (by rw [HN.out]),HB0.out⟩
   ·have HN:Hid ((j+1)+cV (R.drop (j+1))=ANS):=hid (by rw [M_ rfl] at hans;omega)
    clear hans hc hr
    go_wp2_with (go_at_call 109;refine (HC.out _).mono ?_;rintro e w' ⟨rfl,rfl⟩)
    go_roundg gk
    case measure=>omega
    case rel=>exact ⟨j+1,by go_num,by omega,by omega,HN.out,rfl⟩
  ·obtain rfl:j=R.length:=by omega
   rw [List.drop_length] at hans
   have HN2:Hid (R.length=ANS):=hid (by simpa [cV] using hans)
   clear hans
   have hnl:¬((R.length:Int)<R.length):=by omega
   go_wp2_with fail
   go_ret
   exact ⟨bU (by rw [HN2.out]),HB0.out⟩
theorem Gv {w B l} (h:xN.Row [] w B (yO l)) (hv:Vd l) {k} (hk:k≤(rv l).length):∃ad,B=some ad∧w.cell? (ad.add k)=some (.int .i64 (bw l k:Int)):=by
 have hl:=Mq hv
 obtain ⟨ad,e,hc⟩:=iM h k (by omega)
 have h2:=Zr hv hk
 rw [R_ (by omega)] at h2
 injection h2 with h2
 rw [h2] at hc
 exact ⟨ad,e,hc⟩
theorem Yc {l} (hv:Vd l) {i k} (hik:i≤k) (hk:k≤(rv l).length):bw l i≤bw l k∧bw l k≤l.length:=by
 rw [jI] at hk
 obtain ⟨d,rfl⟩:∃d,k=i+d:=⟨k - i,by omega⟩
 have:=uG hv i d (by omega)
 exact ⟨by omega,(eW _ l hv hk).1⟩
theorem lD (s A a B b i k w) (h:qL w s A a B b) (hik:i≤k) (hk:k≤(rv s.data.toList).length) :
  Calls prog 89 #[Bl s A a B b,.int .i64 i,.int .i64 k] w fun r w'=>r=.returned (.string (s.extract (bw s.data.toList i) (bw s.data.toList k)))∧Below w.heap.size w w':=by
 have hn:=h.runes_le
 have hsz:=h.size
 obtain ⟨ad,rfl,x0⟩:=Gv h.z h.vd (k:=i) (by omega)
 obtain ⟨ad',e0,x1⟩:=Gv h.z h.vd hk
 injection e0 with e0
 subst e0
 have hm:=Yc h.vd hik hk
 have hpl:=Mq h.vd
 have hzb:=h.zb
 rw [aJ] at hm
 generalize bw s.data.toList i=p at *
 generalize bw s.data.toList k=q at *
 unfold Bl
 generalize (rv s.data.toList).length=L1 at *
 generalize (yO s.data.toList).length=L2 at *
 have hlt:=N_ w _ x0
 have hlt1:=N_ w _ x1
 have hi0:(0:Int)≤i:=by omega
 have hk0:(0:Int)≤k:=by omega
 have hil:(i:Int)<L2:=by omega
 have hkl:(k:Int)<L2:=by omega
 have hbz:(L2:Int)≤b:=by omega
 have hp0:(0:Int)≤p:=by omega
 have hpq:(p:Int)≤q:=by omega
 have hqs:(q:Int)≤s.size:=by omega
 clear h hm hpl hzb
 go_enter func89,ntmps89
 go_wp2_with fail
 go_quiet (fail)
 go_wp2_with fail
 go_ret
 exact ⟨bV (by first | rfl | simp),dM ((J_ _ _).alloc le_ _) _⟩
theorem Gw (s w) (hs:s.size≤8192) :
  Calls prog 90 #[.string s] w fun r w'=>r=.returned (.tuple #[.int .i64 (oD s).1,.bool (oD s).2])∧w=w':=by
 have hsz:(s.size:Int)≤8192:=by omega
 have hat:∀j (h:j<s.size),s.data.toList[j]'(by rw [aJ];exact h)=s[j]:=fun j h=>rfl
 by_cases h0:s.size=0
 ·have HX:Hid (oD s=(0,false)):=hid (M_ (.inl h0))
  have h0b:((s.size:Int) == 0)=true:=D_ (by omega)
  clear h0
  go_enter func90,ntmps90
  go_wp2_with fail
  go_ret2
  exact ⟨by rw [HX.out];first | done | rfl,rfl⟩
 have h0b:((s.size:Int) == 0)=false:=aW (by omega)
 have hp:0<s.size:=by omega
 have hpz:(0:Int)<s.size:=by omega
 obtain ⟨c0,hc0⟩:=nm_ (s[0])
 have hg0:s.data.toList.getD 0 0=c0:=by rw [←mP s hp,hc0]
 by_cases h48:1<s.size∧c0=48
 ·have HX:Hid (oD s=(0,false)):=hid (M_ (.inr ⟨h48.1,by rw [hg0];exact h48.2⟩))
  obtain ⟨h1,rfl⟩:=h48
  have h1z:(1:Int)<s.size:=by omega
  clear h0 h1 hg0
  go_enter func90,ntmps90
  go_wp2_with fail
  go_ret2
  exact ⟨by rw [HX.out];first | done | rfl,rfl⟩
 obtain ⟨ANS,hANS⟩:=nm_ (yN s.data.toList 0)
 have HX:Hid (oD s=ANS):=hid (by
  unfold oD
  rw [K_ (by rw [hg0];rintro (e | e);exact h0 e;exact h48 e),hANS])
 have HANS:=hid hANS
 have hor:(s.size:Int)≤1∨(1:Int)<s.size∧((c0.toNat:Int) == 48)=false:=by
  rcases Nat.lt_or_ge 1 s.size with h | h
  ·refine .inr ⟨by omega,?_⟩
   rw [beq_eq_false_iff_ne]
   intro e
   exact h48 ⟨h,UInt8.toNat_inj.1 (by simpa using (by omega:c0.toNat=48))⟩
  ·exact .inl (by omega)
 have HAT:=hid hat
 clear h0 h48 hg0 hANS hat
 rcases hor with hor | ⟨hor,hor2⟩
 all_goals
  go_enter func90,ntmps90
  go_wp2_with fail
  go_loopg [4,5] (s.size+1) (fun k s4 s5 w'=>∃(j:Nat) (v:Int),s5=.int .i64 j∧s4=.int .i64 v∧j≤s.size∧s.size - j<k∧0≤v∧v≤9223372036854775807∧yN (s.data.toList.drop j) v=ANS∧w'=w)
  case atStart=>exact ⟨0,0,rfl,rfl,by omega,by omega,by decide,by decide,HANS.out,rfl⟩
  case round=>
   obtain ⟨j,v,rfl,rfl,hj,hjk,hv0,hv1,hans,rfl⟩:=hrel
   obtain ⟨gk,rfl⟩:=pk_ gk 1 (by omega)
   have hj0:(0:Int)≤j:=by omega
   by_cases hlt:j<s.size
   ·have hltz:(j:Int)<s.size:=by omega
    obtain ⟨c,hc⟩:=nm_ (s[j])
    have hcl:=c.toNat_lt
    rw [dX s.data.toList j (by rw [aJ];exact hlt),HAT.out j hlt,hc,yN] at hans
    by_cases hd:(c.toNat:Int)<48∨57<(c.toNat:Int)
    ·rw [M_ hd] at hans
     have HN:Hid (oD s=(0,false)):=hid (by rw [HX.out,←hans])
     have hd2:(c.toNat:Int)<48∨(48≤(c.toNat:Int)∧57<(c.toNat:Int)):=by omega
     clear hans hd
     rcases hd2 with hd2 | ⟨hd2,hd3⟩
     all_goals
      go_wp2_with fail
      go_ret2
      exact ⟨by rw [HN.out];first | done | rfl,rfl⟩
    ·rw [K_ hd] at hans
     have hd2:48≤(c.toNat:Int):=by omega
     have hd3:(c.toNat:Int)≤57:=by omega
     obtain ⟨d,hdd⟩:=nm_ ((c.toNat:Int) - 48)
     have hdb:0≤d∧d≤9:=by omega
     obtain ⟨t,ht⟩:=nm_ ((9223372036854775807 - d).tdiv 10)
     have ht2:t=(9223372036854775807 - d) / 10:=by rw [←ht,Int.tdiv_eq_ediv_of_nonneg (by omega)]
     have htb:0≤t:=by omega
     have htb2:t≤922337203685477580:=by omega
     rw [hdd,ht] at hans
     by_cases ho:t<v
     ·rw [M_ ho] at hans
      have HN:Hid (oD s=(0,false)):=hid (by rw [HX.out,←hans])
      clear hans hd ht2
      go_wp2_with fail
      go_ret2
      exact ⟨by rw [HN.out];first | done | rfl,rfl⟩
     ·rw [K_ ho] at hans
      have ho2:v≤t:=by omega
      have HN:=hid hans
      have hfit:10*v+d≤9223372036854775807:=by omega
      clear hans hd ho ht2
      go_wp2_with fail
      go_roundg gk
      case measure=>omega
      case rel=>exact ⟨j+1,10*v+d,by go_num,by go_num,by omega,by omega,by omega,hfit,HN.out,rfl⟩
   ·obtain rfl:j=s.size:=by omega
    rw [show s.data.toList.drop s.size=[] from List.drop_of_length_le (by rw [aJ];exact H_ _),yN] at hans
    have HN:Hid (oD s=(v,true)):=hid (by rw [HX.out,←hans])
    clear hans
    have hnl:¬((s.size:Int)<s.size):=by omega
    go_wp2_with fail
    go_ret2
    exact ⟨by rw [HN.out];first | done | rfl,rfl⟩
end Go.Proofs.YtgcfjkfipkfijaaGreatDoor
