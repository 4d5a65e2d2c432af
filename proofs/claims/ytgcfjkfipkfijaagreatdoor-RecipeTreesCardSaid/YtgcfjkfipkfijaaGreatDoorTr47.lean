/- Part 47 of the proof of rtrees_card; no conditions. -/
import Derived.Test.YtgcfjkfipkfijaaGreatDoorTr01
import Derived.Test.YtgcfjkfipkfijaaGreatDoorTr26
import Derived.Test.YtgcfjkfipkfijaaGreatDoorTr46
import Derived.Test.YtgcfjkfipkfijaaGreatDoorTr21
namespace Go.Proofs.YtgcfjkfipkfijaaGreatDoor
open Go Go.RowKit Go.Lib _root_.Go.Proofs.Tryz
def rv (l:List UInt8):List Int:=(aI l).map (fun r=>(r.1:Int))
def Yo:List (Nat × Nat)→Nat
 | []=>0
 | r::rs=>r.2+Yo rs
def bw (l:List UInt8) (k:Nat):Nat:=Yo ((aI l).take k)
theorem uF:rv []=[]:=rfl
theorem jI (l):(rv l).length=(aI l).length:=by unfold rv;rw [U_]
theorem gS {l} (h:l≠[]):rv l=((decodeL l).1:Int)::rv (l.drop (decodeL l).2):=by unfold rv;rw [bD l h];rfl
theorem eM (l):bw l 0=0:=by unfold bw;rw [List.take_zero];rfl
theorem gT {l} (h:l≠[]) (k):bw l (k+1)=(decodeL l).2+bw (l.drop (decodeL l).2) k:=by unfold bw;rw [bD l h,List.take_succ_cons];rfl
theorem Kh {l k} (h:k<(aI l).length):l≠[]:=by
 intro e
 subst e
 simp [pP] at h
theorem eW:∀(k:Nat) (l:List UInt8),Vd l→k≤(aI l).length →
  bw l k≤l.length∧aI (l.take (bw l k))=(aI l).take k∧aI (l.drop (bw l k))=(aI l).drop k∧Vd (l.drop (bw l k))
 | 0,l,hv,_=>by rw [eM];exact ⟨h_ _,by rw [List.take_zero,List.take_zero,pP],by rw [List.drop_zero,List.drop_zero],by rw [List.drop_zero];exact hv⟩
 | k+1,l,hv,h=>by
  have hl:l≠[]:=Kh (k:=k) h
  have hw:=decodeL_width l
  have hle:=decodeL_le l hl
  have hr:=bD l hl
  have h':k≤(aI (l.drop (decodeL l).2)).length:=by rw [hr] at h;simpa using h
  obtain ⟨i1,i2,i3,i4⟩:=eW k (l.drop (decodeL l).2) (tD hv hl) h'
  rw [Q_] at i1
  rw [gT hl]
  have hd:=By (l:=l) (m:=(decodeL l).2+bw (l.drop (decodeL l).2) k) (by omega) (by omega) (Cx hv hl)
  have hne:l.take ((decodeL l).2+bw (l.drop (decodeL l).2) k)≠[]:=by
   intro e
   have:=c_ List.length e
   rw [l_,b_] at this
   omega
  refine ⟨by omega,?_,?_,?_⟩
  ·rw [bD _ hne,hd,List.drop_take,Nat.add_sub_cancel_left,i2,hr,List.take_succ_cons]
  ·rw [←List.drop_drop,i3,hr,List.drop_succ_cons]
  ·rw [←List.drop_drop];exact i4
theorem uG {l} (hv:Vd l) (j k) (h:j≤(aI l).length):bw l (j+k)=bw l j+bw (l.drop (bw l j)) k:=by
 have h3:=(eW j l hv h).2.2.1
 unfold bw at h3 ⊢
 rw [h3,List.take_add]
 generalize (aI l).take j=a
 generalize ((aI l).drop j).take k=b
 induction a with
 | nil=>simp [Yo]
 | cons x xs ih=>simp only [List.cons_append,Yo,ih];omega
theorem Xx {l} (hv:Vd l) {k} (h:k≤(aI l).length):rv (l.drop (bw l k))=(rv l).drop k:=by
 unfold rv
 rw [(eW k l hv h).2.2.1,List.map_drop]
theorem Zo {l} (hv:Vd l):bw l (aI l).length=l.length:=by
 obtain ⟨h1,_,h3,_⟩:=eW _ l hv le_
 rw [List.drop_length] at h3
 by_cases h:l.drop (bw l (aI l).length)=[]
 ·have:=c_ List.length h
  rw [Q_,b_] at this
  omega
 ·rw [bD _ h] at h3
  cases h3
theorem iO {l} (hl:l≠[]) (hv:Vd l) (h:(decodeL l).1<128):(decodeL l).2=1∧(l.getD 0 0).toNat=(decodeL l).1:=by
 have hd:=Cx hv hl
 rw [decodeL_N] at hd h ⊢
 rcases decodeN_shape l.length (l.getD 0 0).toNat (l.getD 1 0).toNat (l.getD 2 0).toNat (l.getD 3 0).toNat with ⟨c,e⟩ | ⟨c1,c2,c3,cv,e⟩ | ⟨c1,c2,c3,c4,cv,cs,e⟩ | ⟨c1,c2,c3,c4,c5,cv,cw,e⟩ | e
 ·rw [e];exact ⟨rfl,rfl⟩
 ·rw [e] at h;simp only at h;omega
 ·rw [e] at h;simp only at h;omega
 ·rw [e] at h;simp only at h;omega
 ·exact absurd e hd
theorem Bf {l} (hl:l≠[]) (hv:Vd l) (h:128≤(decodeL l).1):∀j,j<(decodeL l).2→128≤(l.getD j 0).toNat:=by
 intro j hj
 have hd:=Cx hv hl
 rw [decodeL_N] at hd h hj
 rcases decodeN_shape l.length (l.getD 0 0).toNat (l.getD 1 0).toNat (l.getD 2 0).toNat (l.getD 3 0).toNat with ⟨c,e⟩ | ⟨c1,c2,c3,cv,e⟩ | ⟨c1,c2,c3,c4,cv,cs,e⟩ | ⟨c1,c2,c3,c4,c5,cv,cw,e⟩ | e
 ·rw [e] at h;simp only at h;omega
 ·rw [e] at hj;simp only at hj
  have:j=0∨j=1:=by omega
  rcases this with rfl | rfl <;> omega
 ·rw [e] at hj;simp only at hj
  have:j=0∨j=1∨j=2:=by omega
  rcases this with rfl | rfl | rfl <;> omega
 ·rw [e] at hj;simp only at hj
  have:j=0∨j=1∨j=2∨j=3:=by omega
  rcases this with rfl | rfl | rfl | rfl <;> omega
 ·exact absurd e hd
theorem lY {l} (hl:l≠[]) (hv:Vd l) {x} (hx:x.toNat<128) (h:(decodeL l).1≠x.toNat):∀j,j<(decodeL l).2→l.getD j 0≠x:=by
 intro j hj e
 by_cases h1:(decodeL l).1<128
 ·obtain ⟨h2,h3⟩:=iO hl hv h1
  obtain rfl:j=0:=by omega
  rw [e] at h3
  omega
 ·have:=Bf hl hv (by omega) j hj
  rw [e] at this
  omega
theorem nG (x):∀(w:Nat) (l:List UInt8),w≤l.length→(∀j,j<w→l.getD j 0≠x) →
  (indexByte l x<0∧indexByte (l.drop w) x<0)∨(0≤indexByte (l.drop w) x∧indexByte l x=w+indexByte (l.drop w) x)
 | 0,l,_,_=>by
  rw [List.drop_zero]
  rcases Int.lt_or_le (indexByte l x) 0 with h | h
  ·exact .inl ⟨h,h⟩
  ·exact .inr ⟨h,by omega⟩
 | w+1,[],h,_=>by simp at h
 | w+1,b::l,h,hn=>by
  have hb:(b == x)=false:=A_ (by have:=hn 0 (by omega);simpa using this)
  have ih:=nG x w l (by simpa using h) (fun j hj=>by have:=hn (j+1) (by omega);simpa using this)
  rw [List.drop_succ_cons]
  have hge:=indexByte_ge l x
  have hX:indexByte (b::l) x=if indexByte l x<0 then -1 else indexByte l x+1:=by
   simp only [indexByte,hb]
   repeat' split
   all_goals first | omega | (simp_all;done) | (simp_all;omega)
  rw [hX]
  rcases ih with ⟨h1,h2⟩ | ⟨h1,h2⟩
  ·rw [M_ h1];exact .inl ⟨by decide,h2⟩
  ·rw [K_ (by omega)];exact .inr ⟨h1,by omega⟩
theorem yM (x l) (hl:l≠[]) (h:l.getD 0 0=x):indexByte l x=0:=by
 obtain ⟨b,t,rfl⟩:=n_ hl
 have:b=x:=by simpa using h
 subst this
 simp [indexByte]
def bI:Bool→List Int→Nat
 | _,[]=>0
 | true,c::cs=>if c=10 then 1+bI false cs else 1+bI true cs
 | false,c::cs=>if dJ c=6 then 1+bI true cs else if dJ c=1 then 1+bI false cs else 0
theorem lZ:∀(l:List Int) (b:Bool),bI b l≤l.length
 | [],b=>by cases b <;> simp [bI]
 | c::cs,true=>by
  have h1:=lZ cs true
  have h2:=lZ cs false
  simp only [bI,P_]
  split <;> omega
 | c::cs,false=>by
  have h1:=lZ cs true
  have h2:=lZ cs false
  simp only [bI,P_]
  repeat' split
  all_goals omega
theorem Bg {r} (h:dJ r=1):r=32∨r=9∨r=13∨r=10:=by
 unfold dJ at h
 by_cases h1:r=32∨r=9∨r=13∨r=10
 ·exact h1
 rw [K_ h1] at h
 repeat' split at h
 all_goals cases h
theorem pL {r} (h:dJ r=6):r=35:=by
 unfold dJ at h
 by_cases h1:r=35
 ·exact h1
 rw [K_ h1] at h
 repeat' split at h
 all_goals cases h
theorem Zp:∀(n:Nat) (l:List UInt8),l.length≤n→Vd l →
  ∃q,q≤(aI l).length∧bw l q=(if indexByte l 10<0 then l.length else (indexByte l 10).toNat)∧bI true (rv l)=q+bI false (rv (l.drop (bw l q))):=by
 intro n
 induction n with
 | zero=>intro l h _;rw [X_ (by omega:l.length=0)];exact ⟨0,by simp,by rw [eM];rfl,by rw [eM];rfl⟩
 | succ n ih=>
  intro l h hv
  by_cases hl:l=[]
  ·subst hl;exact ⟨0,by simp,by rw [eM];rfl,by rw [eM];rfl⟩
  ·have hw:=decodeL_width l
   have hle:=decodeL_le l hl
   by_cases h10:(decodeL l).1=10
   ·obtain ⟨h1,h2⟩:=iO hl hv (by omega)
    have hi:indexByte l 10=0:=yM 10 l hl (UInt8.toNat_inj.1 (by rw [h2,h10];rfl))
    refine ⟨0,h_ _,by rw [eM,hi];rfl,?_⟩
    rw [eM,List.drop_zero,gS hl,h10]
    simp only [bI]
    rw [M_ (by rfl),K_ (by decide),M_ (by decide)]
    omega
   ·obtain ⟨q,hq1,hq2,hq3⟩:=ih (l.drop (decodeL l).2) (by rw [Q_];have:0<l.length:=F_ hl;omega) (tD hv hl)
    have hix:=nG 10 (decodeL l).2 l hle (lY hl hv (x:=10) (by decide) (by simpa using h10))
    refine ⟨q+1,by rw [bD l hl,P_];omega,?_,?_⟩
    ·rw [gT hl,hq2,Q_]
     rcases hix with ⟨a,b⟩ | ⟨a,b⟩
     ·rw [M_ a,M_ b];omega
     ·rw [K_ (by omega),K_ (by omega)];omega
    ·rw [gT hl,←List.drop_drop,gS hl]
     simp only [bI]
     rw [K_ (by omega),hq3]
     omega
theorem Ki:∀(n:Nat) (l:List UInt8) (f:Nat) (a:Int),l.length≤n→l.length<f→Vd l →
  oS f l a=(l.drop (bw l (bI false (rv l))),a+(bI false (rv l):Nat)):=by
 intro n
 induction n with
 | zero=>
  intro l f a h hf _
  obtain rfl:l=[]:=X_ (by omega)
  rw [iV rfl]
  simp [uF,bI]
 | succ n ih=>
  intro l f a h hf hv
  by_cases hl:l=[]
  ·subst hl
   rw [iV rfl]
   simp [uF,bI]
  ·obtain ⟨f,rfl⟩:=pk_ f 1 (by omega)
   have hw:=decodeL_width l
   have hle:=decodeL_le l hl
   have hpos:0<l.length:=F_ hl
   obtain ⟨c,t,hct⟩:=n_ hl
   have hc0:l.getD 0 0=c:=by rw [hct];rfl
   have hsk:kJ l=if dJ c.toNat=1 then 1 else if dJ c.toNat=6 then (if indexByte l 10<0 then l.length else (indexByte l 10).toNat) else 0:=by rw [hct];rfl
   by_cases hlow:(decodeL l).1<128
   ·obtain ⟨h1,h2⟩:=iO hl hv hlow
    rw [hc0] at h2
    by_cases hb:dJ ((decodeL l).1:Int)=1
    ·rw [h2,M_ hb] at hsk
     have hn6:¬dJ ((decodeL l).1:Int)=6:=by rw [hb];decide
     have hk:bI false (rv l)=1+bI false (rv (l.drop 1)):=by rw [gS hl];simp only [bI];rw [K_ hn6,M_ hb,h1]
     have hsp:=eW 1 l hv (by rw [bD l hl];simp)
     have hb1:bw l 1=1:=by rw [gT hl,eM,h1]
     rw [hb1] at hsp
     rw [iU (by rw [hsk];decide),hsk,ih _ _ _ (by rw [Q_];omega) (by rw [Q_];omega) hsp.2.2.2,hsp.2.1,hk,uG hv 1 _ (by rw [bD l hl];simp),hb1,List.drop_drop]
     refine Prod.ext rfl ?_
     simp [bD l hl]
     omega
    ·rw [h2,K_ hb] at hsk
     by_cases h6:dJ ((decodeL l).1:Int)=6
     ·rw [M_ h6] at hsk
      obtain ⟨q,hq1,hq2,hq3⟩:=Zp _ l le_ hv
      have h35:=pL h6
      have hk:bI false (rv l)=q+bI false (rv (l.drop (bw l q))):=by
       rw [←hq3,gS hl]
       simp only [bI]
       rw [M_ h6,K_ (by omega)]
      have hsp:=eW q l hv hq1
      rw [←hq2] at hsk
      have hq0:bw l q≠0:=by
       rw [hq2]
       have hix:=nG 10 (decodeL l).2 l hle (lY hl hv (x:=10) (by decide) (by simp;omega))
       rcases hix with ⟨a,b⟩ | ⟨a,b⟩
       ·rw [M_ a];omega
       ·rw [K_ (by omega)];omega
      rw [iU (by rw [hsk];exact hq0),hsk,ih _ _ _ (by rw [Q_];omega) (by rw [Q_];omega) hsp.2.2.2,hsp.2.1,hk,uG hv q _ hq1,List.drop_drop]
      refine Prod.ext rfl ?_
      rw [l_]
      simp only
      omega
     ·rw [K_ h6] at hsk
      have hk:bI false (rv l)=0:=by rw [gS hl];simp only [bI];rw [K_ h6,K_ hb]
      rw [iV hsk,hk,eM,List.drop_zero]
      simp
   ·have hch:=Bf hl hv (by omega) 0 (by omega)
    rw [hc0] at hch
    have n1:¬dJ (c.toNat:Int)=1:=fun e=>by have:=Bg e;omega
    have n6:¬dJ (c.toNat:Int)=6:=fun e=>by have:=pL e;omega
    have m1:¬dJ ((decodeL l).1:Int)=1:=fun e=>by have:=Bg e;omega
    have m6:¬dJ ((decodeL l).1:Int)=6:=fun e=>by have:=pL e;omega
    rw [K_ n1,K_ n6] at hsk
    have hk:bI false (rv l)=0:=by rw [gS hl];simp only [bI];rw [K_ m6,K_ m1]
    rw [iV hsk,hk,eM,List.drop_zero]
    simp
theorem Mp (l a) (hv:Vd l):skip l a=(l.drop (bw l (bI false (rv l))),a+(bI false (rv l):Nat)):=Ki _ l _ a le_ (o_ _) hv
end Go.Proofs.YtgcfjkfipkfijaaGreatDoor
namespace Go.Proofs.YtgcfjkfipkfijaaGreatDoor
open Go Go.RowKit Go.Lib _root_.Go.Proofs.Tryz
def cV:List Int→Nat
 | []=>0
 | c::cs=>if qJ c then 1+cV cs else 0
theorem mA:∀l:List Int,cV l≤l.length
 | []=>H_ _
 | c::cs=>by
  have:=mA cs
  simp only [cV,P_]
  split <;> omega
theorem uU:∀rs:List (Nat × Nat),eN rs=Yo (rs.take (cV (rs.map (fun r=>(r.1:Int)))))
 | []=>rfl
 | r::rs=>by
  simp only [eN,List.map_cons,cV]
  have ih:=uU rs
  by_cases h:Hk r.1=true
  ·rw [M_ h,M_ (show qJ (r.1:Int)=true from h),Nat.add_comm 1,List.take_succ_cons,Yo,ih]
  ·rw [K_ h,K_ (show ¬qJ (r.1:Int)=true from h)];rfl
theorem Xy (l):eN (aI l)=bw l (cV (rv l)):=uU _
def fW:List Int→Nat
 | []=>0
 | c::cs=>if c=34∨c=10 then 0 else 1+fW cs
theorem Gn (x):∀(l:List UInt8) (m:Nat),(0≤indexByte l x∧indexByte l x<m→indexByte (l.take m) x=indexByte l x)∧(indexByte l x<0∨(m:Int)≤indexByte l x→indexByte (l.take m) x=-1)
 | [],m=>⟨fun h=>absurd h.1 (by simp [indexByte]),fun _=>by simp [indexByte]⟩
 | b::l,0=>⟨fun h=>absurd h.2 (by omega),fun _=>by simp [indexByte]⟩
 | b::l,m+1=>by
  have ih:=Gn x l m
  have hge:=indexByte_ge l x
  rw [List.take_succ_cons]
  simp only [indexByte]
  by_cases hb:(b == x)=true
  ·rw [M_ hb,M_ hb]
   exact ⟨fun _=>rfl,fun h=>absurd h (by omega)⟩
  ·rw [K_ hb,K_ hb]
   by_cases h1:indexByte l x=-1
   ·have h2:=ih.2 (.inl (by omega))
    rw [h1,h2,M_ (by rfl)]
    exact ⟨fun h=>absurd h.1 (by decide),fun _=>rfl⟩
   ·have hn1:(indexByte l x == -1)=false:=A_ h1
    rw [hn1]
    simp only [Bool.false_eq_true,if_false]
    refine ⟨fun h=>?_,fun h=>?_⟩
    ·rw [ih.1 ⟨by omega,by omega⟩,hn1];rfl
    ·rw [ih.2 (by omega)];rfl
theorem Qe (t):(0≤indexByte t 34∧(indexByte t 10<0∨indexByte t 34<indexByte t 10)→cut (cut t [10]).1 [34]=(t.take (indexByte t 34).toNat,(cut (cut t [10]).1 [34]).2.1,true)) ∧
  (¬(0≤indexByte t 34∧(indexByte t 10<0∨indexByte t 34<indexByte t 10))→(cut (cut t [10]).1 [34]).2.2=false):=by
 have hge:=indexByte_ge t 34
 have hge2:=indexByte_ge t 10
 have hu:∃m,(cut t [10]).1=t.take m∧(indexByte t 10<0→t.length≤m)∧(0≤indexByte t 10→(m:Int)=indexByte t 10):=by
  unfold cut
  rw [index_one]
  by_cases h:0≤indexByte t 10
  ·rw [M_ h];exact ⟨_,rfl,fun e=>absurd h (by omega),fun _=>by omega⟩
  ·rw [K_ h];exact ⟨t.length,by simp,fun _=>H_ _,fun e=>absurd e h⟩
 obtain ⟨m,hm,hm1,hm2⟩:=hu
 rw [hm]
 have hit:=Gn 34 t m
 have hlt:=(kL t 34).2
 constructor
 ·rintro ⟨h1,h2⟩
  have hlm:indexByte t 34<m:=by rcases h2 with h2 | h2;have:=hm1 h2;omega;have:=hm2 (by omega);omega
  have e:=hit.1 ⟨h1,hlm⟩
  unfold cut
  rw [index_one,e,M_ h1]
  refine Prod.ext ?_ (Prod.ext rfl rfl)
  show (t.take m).take _=_
  rw [List.take_take,Nat.min_eq_left (by omega)]
 ·intro h
  have e:=hit.2 (by
   rcases Int.lt_or_le (indexByte t 34) 0 with h1 | h1
   ·exact .inl h1
   ·rcases Int.lt_or_le (indexByte t 10) 0 with h2 | h2
    ·exact absurd ⟨h1,.inl h2⟩ h
    ·have:=hm2 h2
     refine .inr ?_
     rcases Int.lt_or_le (indexByte t 34) (indexByte t 10) with h3 | h3
     ·exact absurd ⟨h1,.inr h3⟩ h
     ·omega)
  unfold cut
  rw [index_one,e,K_ (by decide)]
theorem Gp:∀(n:Nat) (t:List UInt8),t.length≤n→Vd t →
  (fW (rv t)<(rv t).length∧(rv t).getD (fW (rv t)) 0≠10→0≤indexByte t 34∧(indexByte t 10<0∨indexByte t 34<indexByte t 10)∧(bw t (fW (rv t)):Int)=indexByte t 34) ∧
  (¬(fW (rv t)<(rv t).length∧(rv t).getD (fW (rv t)) 0≠10)→¬(0≤indexByte t 34∧(indexByte t 10<0∨indexByte t 34<indexByte t 10))):=by
 intro n
 induction n with
 | zero=>
  intro t h _
  obtain rfl:t=[]:=X_ (by omega)
  exact ⟨fun h=>absurd h.1 (by simp [uF,fW]),fun _ h=>absurd h.1 (by simp [indexByte])⟩
 | succ n ih=>
  intro t h hv
  by_cases ht:t=[]
  ·subst ht
   exact ⟨fun h=>absurd h.1 (by simp [uF,fW]),fun _ h=>absurd h.1 (by simp [indexByte])⟩
  ·have hw:=decodeL_width t
   have hle:=decodeL_le t ht
   have hpos:0<t.length:=F_ ht
   have hge:=indexByte_ge t 34
   have hge2:=indexByte_ge t 10
   rw [gS ht]
   by_cases h34:(decodeL t).1=34
   ·obtain ⟨h1,h2⟩:=iO ht hv (by omega)
    have hi:indexByte t 34=0:=yM 34 t ht (UInt8.toNat_inj.1 (by rw [h2,h34];rfl))
    have hj:indexByte t 10≠0:=by
     have hix:=nG 10 (decodeL t).2 t hle (lY ht hv (x:=10) (by decide) (by rw [h34];decide))
     omega
    have hq:fW (((decodeL t).1:Int)::rv (t.drop (decodeL t).2))=0:=by simp only [fW];rw [M_ (.inl (by omega))]
    rw [hq,eM,hi]
    exact ⟨fun _=>⟨by decide,by omega,rfl⟩,fun h=>absurd ⟨by simp,by simp;omega⟩ h⟩
   ·by_cases h10:(decodeL t).1=10
    ·obtain ⟨h1,h2⟩:=iO ht hv (by omega)
     have hi:indexByte t 10=0:=yM 10 t ht (UInt8.toNat_inj.1 (by rw [h2,h10];rfl))
     have hq:fW (((decodeL t).1:Int)::rv (t.drop (decodeL t).2))=0:=by simp only [fW];rw [M_ (.inr (by omega))]
     rw [hq,hi]
     exact ⟨fun h=>absurd h.2 (by simp;omega),fun _ h=>by omega⟩
    ·have hq:fW (((decodeL t).1:Int)::rv (t.drop (decodeL t).2))=fW (rv (t.drop (decodeL t).2))+1:=by simp only [fW];rw [K_ (by omega),Nat.add_comm]
     have hx:=nG 34 (decodeL t).2 t hle (lY ht hv (x:=34) (by decide) (by simpa using h34))
     have hy:=nG 10 (decodeL t).2 t hle (lY ht hv (x:=10) (by decide) (by simpa using h10))
     have hr:=ih (t.drop (decodeL t).2) (by rw [Q_];omega) (tD hv ht)
     rw [hq,gT ht,P_,List.getD_cons_succ]
     refine ⟨fun h=>?_,fun h=>?_⟩
     ·obtain ⟨a1,a2,a3⟩:=hr.1 ⟨by omega,h.2⟩
      refine ⟨by omega,by omega,by omega⟩
     ·have:=hr.2 (fun e=>h ⟨by omega,e.2⟩)
      omega
def Ur (l:List UInt8):bQ × Nat × Int:=
 let t:=l.drop 1
 let k:=fW (rv t)
 if ¬(k<(rv t).length∧(rv t).getD k 0≠10) then (cB,0,11)
 else if ((rv t).take k).any (fun r=>decide (r<32)) then (cB,0,11)
 else if 20<k then (cB,0,2)
 else (⟨3,⟨(t.take (bw t k)).toArray⟩,0,0⟩,k+2,0)
structure pM (l:List UInt8) (x:bQ × Nat × Int) (y:bQ × Int × Int):Prop where
 tok:y.1=x.1
 err:y.2.2=x.2.2
 len:x.2.2=0→y.2.1=(bw l x.2.1:Int)∧1≤x.2.1∧x.2.1≤(aI l).length
theorem pM.bad {l e m} (h:e≠0) {n}:pM l (cB,m,e) (cB,n,e):=⟨rfl,rfl,fun h'=>absurd h' h⟩
theorem Xz {l} (hl:l≠[]) (hv:Vd l) (h:(decodeL l).1=34):pM l (Ur l) (mN l):=by
 obtain ⟨h1,_⟩:=iO hl hv (by omega)
 have hv1:Vd (l.drop 1):=by have:=tD hv hl;rwa [h1] at this
 have hq:=Gp _ (l.drop 1) le_ hv1
 have hc:=Qe (l.drop 1)
 obtain ⟨k,hk⟩:=nm_ (fW (rv (l.drop 1)))
 unfold Ur mN
 simp only
 rw [hk] at hq ⊢
 by_cases hf:k<(rv (l.drop 1)).length∧(rv (l.drop 1)).getD k 0≠10
 ·obtain ⟨a1,a2,a3⟩:=hq.1 hf
  have hc1:=hc.1 ⟨a1,a2⟩
  rw [K_ (fun e=>e hf),hc1]
  simp only
  rw [K_ (show ¬(true=false) by decide),show (indexByte (l.drop 1) 34).toNat=bw (l.drop 1) k by omega]
  have hkl:k≤(aI (l.drop 1)).length:=by rw [←jI];omega
  obtain ⟨s1,s2,_,_⟩:=eW k (l.drop 1) hv1 hkl
  rw [s2]
  have hany:((rv (l.drop 1)).take k).any (fun r=>decide (r<32))=((aI (l.drop 1)).take k).any (fun r=>decide (r.1<32)):=by
   unfold rv
   rw [←List.map_take,List.any_map]
   congr 1
   funext r
   exact decide_eq_decide.2 (by simp;omega)
  rw [hany]
  by_cases hb:((aI (l.drop 1)).take k).any (fun r=>decide (r.1<32))=true
  ·rw [M_ hb,M_ hb];exact pM.bad (by decide)
  ·rw [K_ hb,K_ hb,l_,Nat.min_eq_left hkl]
   by_cases h20:20<k
   ·rw [M_ h20,M_ h20];exact pM.bad (by decide)
   ·rw [K_ h20,K_ h20]
    refine ⟨rfl,rfl,fun _=>⟨?_,by simp only;omega,?_⟩⟩
    ·simp only [l_]
     have e1:bw l (k+2)=1+(bw (l.drop 1) k+1):=by
      rw [show k+2=1+(k+1) by omega,uG hv 1 (k+1) (by rw [bD l hl];simp)]
      have hb1:bw l 1=1:=by rw [gT hl,eM,h1]
      rw [hb1,uG hv1 k 1 hkl]
      have hne:(l.drop 1).drop (bw (l.drop 1) k)≠[]:=by
       have h3:=(eW k (l.drop 1) hv1 hkl).2.2.1
       intro e
       rw [e,pP] at h3
       have:=c_ List.length h3
       rw [Q_,b_] at this
       have:=hf.1
       rw [jI] at this
       omega
      have hvk:=(eW k (l.drop 1) hv1 hkl).2.2.2
      rw [gT hne,eM]
      have h34:((l.drop 1).drop (bw (l.drop 1) k)).getD 0 0=34:=by
       rw [uE,Nat.add_zero]
       have hs:=(indexByte_some (l:=l.drop 1) (c:=34) (o:=bw (l.drop 1) k) (by omega)).1
       rw [S_,hs];rfl
      obtain ⟨c,t,hct⟩:=n_ hne
      rw [hct] at h34 ⊢
      have hc34:c=34:=by simpa using h34
      rw [hc34,decodeL_ascii 34 t (by decide)]
     rw [e1,Nat.min_eq_left s1]
     omega
    ·simp only
     rw [bD l hl,P_,h1]
     have:=hf.1
     rw [jI] at this
     omega
 ·rw [M_ hf,hc.2 (hq.2 hf),M_ rfl]
  exact pM.bad (by decide)
end Go.Proofs.YtgcfjkfipkfijaaGreatDoor
namespace Go.Proofs.YtgcfjkfipkfijaaGreatDoor
open Go Go.RowKit Go.Lib _root_.Go.Proofs.Tryz
def yN:List UInt8→Int→Int × Bool
 | [],n=>(n,true)
 | c::cs,n=>if (c.toNat:Int)<48∨57<(c.toNat:Int) then (0,false) else if (9223372036854775807 - ((c.toNat:Int) - 48)).tdiv 10<n then (0,false) else yN cs (10*n+((c.toNat:Int) - 48))
def oD (s:ByteArray):Int × Bool:=if s.size=0∨1<s.size∧s.data.toList.getD 0 0=48 then (0,false) else yN s.data.toList 0
def vC:List UInt8→Nat→Nat
 | [],a=>a
 | c::cs,a=>vC cs (10*a+(c.toNat - 48))
theorem Cy:∀(l:List UInt8) (a:Nat),a*10 ^ l.length≤vC l a
 | [],a=>by simp [vC]
 | c::cs,a=>by
  have h:=Cy cs (10*a+(c.toNat - 48))
  rw [vC,P_,Nat.pow_succ]
  have h2:a*(10 ^ cs.length*10)≤(10*a+(c.toNat - 48))*10 ^ cs.length:=by
   rw [Nat.mul_comm (10 ^ cs.length) 10,←Nat.mul_assoc,Nat.mul_comm a 10]
   exact Nat.mul_le_mul_right _ (Nat.le_add_right _ _)
  omega
theorem Ya (l a):a≤vC l a:=by
 have h:=Cy l a
 have h2:a*1≤a*10 ^ l.length:=Nat.mul_le_mul_left _ (Nat.pos_of_ne_zero (by simp))
 omega
def Us (l:List UInt8):Prop:=∀c,c∈l→48≤c.toNat∧c.toNat≤57
theorem Bh:∀(l:List UInt8) (a:Nat),Us l→a≤9223372036854775807→yN l (a:Int)=if 9223372036854775807<vC l a then (0,false) else (((vC l a:Nat):Int),true)
 | [],a,_,ha=>by rw [yN,vC,K_ (by omega)]
 | c::cs,a,h,ha=>by
  have hc:=h c (by simp)
  have ih:=Bh cs (10*a+(c.toNat - 48)) (fun x hx=>h x (by simp [hx]))
  rw [yN,vC,K_ (by omega),Int.tdiv_eq_ediv_of_nonneg (by omega)]
  by_cases ho:9223372036854775807<10*a+(c.toNat - 48)
  ·have:=Ya cs (10*a+(c.toNat - 48))
   rw [M_ (by omega),M_ (by omega)]
  ·rw [K_ (by omega),show (10*(a:Int)+((c.toNat:Int) - 48))=((10*a+(c.toNat - 48):Nat):Int) by omega,ih (by omega)]
theorem Gq:∀(l:List UInt8) (n:Int),¬Us l→yN l n=(0,false)
 | [],n,h=>absurd (fun c hc=>by simp at hc) h
 | c::cs,n,h=>by
  rw [yN]
  by_cases hc:(c.toNat:Int)<48∨57<(c.toNat:Int)
  ·rw [M_ hc]
  ·rw [K_ hc]
   split
   ·rfl
   ·refine Gq cs _ (fun hd=>h (fun x hx=>?_))
    rcases List.mem_cons.1 hx with rfl | hx
    ·omega
    ·exact hd x hx
theorem Bi:∀(l:List UInt8) (a:Nat),Us l→yU a (aI l)=some (vC l a)
 | [],a,_=>rfl
 | c::cs,a,h=>by
  have hc:=h c (by simp)
  rw [bD _ (by simp),decodeL_ascii c cs (by omega),yU,List.drop_succ_cons,List.drop_zero,vC]
  rw [M_ (by unfold dJ;rw [K_ (by omega),K_ (by omega),K_ (by omega),M_ (by simp only;omega)])]
  exact Bi cs _ (fun x hx=>h x (by simp [hx]))
theorem Gr {l} (h:(decodeL l).1<128):(decodeL l).2=1:=by
 rw [decodeL_N] at h ⊢
 rcases decodeN_shape l.length (l.getD 0 0).toNat (l.getD 1 0).toNat (l.getD 2 0).toNat (l.getD 3 0).toNat with ⟨c,e⟩ | ⟨c1,c2,c3,cv,e⟩ | ⟨c1,c2,c3,c4,cv,cs,e⟩ | ⟨c1,c2,c3,c4,c5,cv,cw,e⟩ | e
 ·rw [e]
 all_goals
  rw [e] at h
  simp only at h
  omega
theorem Gs:∀(l:List UInt8) (a:Nat),¬Us l→yU a (aI l)=none
 | [],a,h=>absurd (fun c hc=>by simp at hc) h
 | c::cs,a,h=>by
  rw [bD _ (by simp),yU]
  by_cases hc:dJ ((decodeL (c::cs)).1:Int)=3
  ·have h3:=zP hc
   have h1:=Gr (l:=c::cs) (by omega)
   have h2:=yY (l:=c::cs) (by omega)
   rw [M_ hc,h1,List.drop_succ_cons,List.drop_zero]
   refine Gs cs _ (fun hd=>h (fun x hx=>?_))
   rcases List.mem_cons.1 hx with rfl | hx
   ·have:(decodeL (x::cs)).1=x.toNat:=h2
    omega
   ·exact hd x hx
  ·rw [K_ hc]
theorem Yb (s):oD s=qG s:=by
 unfold oD qG
 by_cases h0:s.size=0∨1<s.size∧s.data.toList.getD 0 0=48
 ·rw [M_ h0,M_ (by rcases h0 with h | h;exact .inl h;exact .inr (.inr h))]
 ·rw [K_ h0]
  by_cases hd:Us s.data.toList
  ·have h1:=Bh s.data.toList 0 hd (by decide)
   rw [show ((0:Nat):Int)=0 from rfl] at h1
   rw [h1]
   by_cases h19:19<s.size
   ·rw [M_ (show s.size=0∨19<s.size∨1<s.size∧s.data.toList.getD 0 0=48 from .inr (.inl h19)),M_]
    have hl:s.data.toList.length=s.size:=aJ s
    obtain ⟨c,t,hct⟩:=n_ (l:=s.data.toList) (by intro e;rw [e] at hl;simp at hl;omega)
    rw [hct] at hl hd h0 ⊢
    have hc:=hd c (by simp)
    have hn:c.toNat≠48:=fun e=>h0 (.inr ⟨by omega,by simpa using UInt8.toNat_inj.1 (by rw [e];rfl)⟩)
    have hv:=Cy t (10*0+(c.toNat - 48))
    rw [vC]
    have hp:10 ^ 19≤10 ^ t.length:=Nat.pow_le_pow_right (by decide) (by rw [P_] at hl;omega)
    have hm:1*10 ^ 19≤(10*0+(c.toNat - 48))*10 ^ t.length:=Nat.mul_le_mul (by omega) hp
    have h10:(10:Nat) ^ 19=10000000000000000000:=by decide
    omega
   ·rw [K_ (show ¬(s.size=0∨19<s.size∨1<s.size∧s.data.toList.getD 0 0=48) from fun e=>by rcases e with e | e | e;exact h0 (.inl e);exact h19 e;exact h0 (.inr e)),Bi _ _ hd]
    rfl
  ·rw [Gq _ _ hd,Gs _ _ hd]
   split <;> rfl
def uV (s:ByteArray):Bool:=dK s ⟨#[60,61]⟩ || (dK s ⟨#[62,61]⟩ || (dK s ⟨#[61,61]⟩ || (dK s ⟨#[33,61]⟩ || dK s ⟨#[58,61]⟩)))
def iP (l:List UInt8) (k:Nat):ByteArray:=⟨(l.take (bw l k)).toArray⟩
def Gt (l:List UInt8):Nat:=if 1<(rv l).length∧(rv l).getD 1 0=61 then (if uV (iP l 2) then 2 else 1) else 1
def fI (l:List UInt8):bQ × Nat × Int:=
 let c:=dJ ((rv l).getD 0 0)
 let n:=cV (rv l)
 if c=2 then (if 12<n then (cB,0,2) else (⟨1,iP l n,0,0⟩,n,0))
 else if c=3 then (if (oD (iP l n)).2 then (⟨2,iP l n,(oD (iP l n)).1,0⟩,n,0) else (cB,0,11))
 else if c=5 then Ur l
 else if c=4 then (⟨4,iP l (Gt l),0,0⟩,Gt l,0)
 else (cB,0,11)
theorem Bj {l} (hl:l≠[]) (h:dJ ((decodeL l).1:Int)=2∨dJ ((decodeL l).1:Int)=3):1≤cV (rv l):=by
 rw [gS hl]
 simp only [cV]
 have:qJ ((decodeL l).1:Int)=true:=by unfold qJ;rcases h with h | h <;> rw [h] <;> rfl
 rw [M_ this]
 omega
theorem Kj (l):cV (rv l)≤(aI l).length:=by have:=mA (rv l);rwa [jI] at this
theorem Ut {r} (h:dJ r=4):32<r∧r<127:=by
 unfold dJ at h
 repeat' split at h
 all_goals first | (cases h;done) | (rename_i h2;exact ⟨h2.1,h2.2.1⟩)
theorem Qf (c):uV ⟨#[c,61]⟩=decide (0≤indexByte [60,62,61,33,58] c):=by
 have h:((List.range 256).all fun k=>uV ⟨#[k.toUInt8,61]⟩ == decide (0≤indexByte [60,62,61,33,58] k.toUInt8))=true:=by kernel_rfl
 have h2:=List.all_eq_true.1 h c.toNat (List.mem_range.2 c.toNat_lt)
 rw [beq_iff_eq,show c.toNat.toUInt8=c by simp] at h2
 exact h2
theorem Zq {l} (hl:l≠[]) (hv:Vd l) (h:dJ ((decodeL l).1:Int)=4) :
  (if 1<l.length∧l.getD 1 0=61∧0≤indexByte [60,62,61,33,58] (l.getD 0 0) then 2 else (decodeL l).2)=bw l (Gt l)∧1≤Gt l∧Gt l≤(aI l).length:=by
 have h4:=Ut h
 obtain ⟨h1,h2⟩:=iO hl hv (by omega)
 have hb1:bw l 1=1:=by rw [gT hl,eM,h1]
 have hr1:1≤(aI l).length:=by rw [bD l hl];simp
 have hv1:Vd (l.drop 1):=by have:=tD hv hl;rwa [h1] at this
 rw [h1]
 have key:(1<(rv l).length∧(rv l).getD 1 0=61)↔(1<l.length∧l.getD 1 0=61):=by
  rw [gS hl,h1,P_,List.getD_cons_succ]
  by_cases ht:l.drop 1=[]
  ·rw [ht,uF]
   have:=c_ List.length ht
   rw [Q_,b_] at this
   exact ⟨fun e=>by simp at e,fun e=>by omega⟩
  ·have hpos:0<(l.drop 1).length:=F_ ht
   rw [Q_] at hpos
   have hg:l.getD 1 0=(l.drop 1).getD 0 0:=by rw [uE]
   rw [gS ht,hg]
   constructor
   ·rintro ⟨_,e⟩
    have e2:((decodeL (l.drop 1)).1:Int)=61:=e
    have e':(decodeL (l.drop 1)).1=61:=by omega
    obtain ⟨_,h6⟩:=iO ht hv1 (by omega)
    exact ⟨by omega,UInt8.toNat_inj.1 (by rw [h6,e'];rfl)⟩
   ·rintro ⟨_,e⟩
    obtain ⟨c,t,hct⟩:=n_ ht
    rw [hct] at e ⊢
    have hc:c=61:=by simpa using e
    rw [hc,decodeL_ascii 61 t (by decide)]
    exact ⟨by simp,by simp⟩
 unfold Gt
 by_cases hk:1<(rv l).length∧(rv l).getD 1 0=61
 ·have hk2:=key.1 hk
  rw [M_ hk]
  have hne:l.drop 1≠[]:=by
   intro e
   have:=c_ List.length e
   rw [Q_,b_] at this
   omega
  have hd61:(decodeL (l.drop 1))=(61,1):=by
   obtain ⟨c,t,hct⟩:=n_ hne
   have e:(l.drop 1).getD 0 0=61:=by rw [uE];exact hk2.2
   rw [hct] at e ⊢
   have hc:c=61:=by simpa using e
   rw [hc,decodeL_ascii 61 t (by decide)]
   rfl
  have hb2:bw l 2=2:=by rw [gT hl,h1,gT hne,eM,hd61];rfl
  obtain ⟨c,t,hct⟩:=n_ hl
  obtain ⟨d,t2,hct2⟩:∃d t2,t=d::t2:=by
   rw [hct] at hk2
   exact n_ (by intro e;subst e;simp at hk2)
  subst hct2
  have hd:d=61:=by have:=hk2.2;rw [hct] at this;simpa using this
  have hp:iP l 2=⟨#[c,61]⟩:=by unfold iP;rw [hb2,hct,hd];rfl
  have hc0:l.getD 0 0=c:=by rw [hct];rfl
  rw [hp,Qf,hc0]
  have h2r:2≤(aI l).length:=by rw [←jI];omega
  by_cases hi:0≤indexByte [60,62,61,33,58] c
  ·rw [M_ ⟨hk2.1,hk2.2,hi⟩,M_ (W_ hi),hb2]
   exact ⟨rfl,by decide,h2r⟩
  ·rw [K_ (fun e=>hi e.2.2),K_ (by simpa using hi),hb1]
   exact ⟨rfl,by decide,by omega⟩
 ·rw [K_ hk,K_ (fun e=>hk (key.2 ⟨e.1,e.2.1⟩)),hb1]
  exact ⟨rfl,by decide,hr1⟩
theorem Cz {l} (hl:l≠[]) (hv:Vd l):pM l (fI l) (eX l):=by
 have hwi:=Xy l
 have hwr:=Kj l
 have h0:(rv l).getD 0 0=((decodeL l).1:Int):=by rw [gS hl];rfl
 unfold fI eX
 simp only
 rw [h0,hwi]
 by_cases h2:dJ ((decodeL l).1:Int)=2
 ·rw [M_ h2,M_ h2,(eW _ l hv hwr).2.1,l_,Nat.min_eq_left hwr]
  by_cases h12:12<cV (rv l)
  ·rw [M_ h12,M_ h12];exact pM.bad (by decide)
  ·rw [K_ h12,K_ h12]
   exact ⟨rfl,rfl,fun _=>⟨rfl,Bj hl (.inl h2),hwr⟩⟩
 rw [K_ h2,K_ h2]
 by_cases h3:dJ ((decodeL l).1:Int)=3
 ·rw [M_ h3,M_ h3,Yb]
  show pM l (if (qG (iP l (cV (rv l)))).2=true then _ else _) (if (qG (iP l (cV (rv l)))).2=true then _ else _)
  by_cases hn:(qG (iP l (cV (rv l)))).2=true
  ·rw [M_ hn,M_ hn]
   exact ⟨rfl,rfl,fun _=>⟨rfl,Bj hl (.inr h3),hwr⟩⟩
  ·rw [K_ hn,K_ hn];exact pM.bad (by decide)
 rw [K_ h3,K_ h3]
 by_cases h5:dJ ((decodeL l).1:Int)=5
 ·rw [M_ h5,M_ h5]
  have h34:(decodeL l).1=34:=by
   have:((decodeL l).1:Int)=34:=by
    unfold dJ at h5
    by_cases e:((decodeL l).1:Int)=34
    ·exact e
    ·rw [K_ e] at h5
     repeat' split at h5
     all_goals cases h5
   omega
  exact Xz hl hv h34
 rw [K_ h5,K_ h5]
 by_cases h4:dJ ((decodeL l).1:Int)=4
 ·rw [M_ h4,M_ h4]
  obtain ⟨e1,e2,e3⟩:=Zq hl hv h4
  rw [e1]
  exact ⟨rfl,rfl,fun _=>⟨rfl,e2,e3⟩⟩
 ·rw [K_ h4,K_ h4];exact pM.bad (by decide)
theorem Qg {f l a out} (hl:l≠[]) (hv:Vd l) (ho:out.length≠2000) (he:(fI l).2.2=0) :
  gJ (f+1) l a out=gJ f ((l.drop (bw l (fI l).2.1)).drop (bw (l.drop (bw l (fI l).2.1)) (bI false (rv (l.drop (bw l (fI l).2.1)))))) (a+(fI l).2.1+(bI false (rv (l.drop (bw l (fI l).2.1))):Nat)) (out++[{ (fI l).1 with at_:=a }]):=by
 have h:=Cz hl hv
 obtain ⟨h1,h2,h3⟩:=h.len he
 obtain ⟨_,s2,_,s4⟩:=eW _ l hv h3
 rw [tV hl ho (h.err.trans he),h.tok,h1,Int.toNat_natCast,s2,l_,Nat.min_eq_left h3,Mp _ _ s4]
theorem Uu {f l a out} (hl:l≠[]) (hv:Vd l) (ho:out.length≠2000) (he:(fI l).2.2≠0):gJ (f+1) l a out=([],(fI l).2.2,a):=by
 have h:=Cz hl hv
 rw [wZ hl ho (by rw [h.err];exact he),h.err]
end Go.Proofs.YtgcfjkfipkfijaaGreatDoor
