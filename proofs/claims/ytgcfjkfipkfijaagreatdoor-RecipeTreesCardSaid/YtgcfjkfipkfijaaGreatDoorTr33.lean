/- Part 33 of the proof of rtrees_card; no conditions. -/
import Derived.Test.YtgcfjkfipkfijaaGreatDoorTr01
import Derived.Test.YtgcfjkfipkfijaaGreatDoorTr32
set_option maxRecDepth 100000
set_option maxHeartbeats 8000000
namespace Go.Proofs.YtgcfjkfipkfijaaGreatDoor
open Go Go.RowKit Go.Lib _root_.Go.Proofs.Tryz
theorem Pe {x} (h:qI x) {i} (hi:i≤6):(Lib.join ((x.units.take i).map jZ) [44,32]).length≤400000:=by
 have h1:=pB [44,32] 65536 ((x.units.take i).map jZ) (fun y hy=>by
  obtain ⟨u,hu,rfl⟩:=List.mem_map.1 hy
  rw [cA]
  exact h.unit u (List.mem_of_mem_take hu))
 have h2:((x.units.take i).map jZ).length≤6:=by rw [U_];exact d_ (List.length_take_le _ _) hi
 have h3:=Nat.mul_le_mul_right (65536+2) h2
 simp only [P_,b_] at h1
 omega
theorem Tm {P l nA nc wB f} (hN:∀x,x∈l→qI x) (hX:∀x,x∈l→Jn x) (hR:aO yS P wB nA nc l) (hK:Xi l nA nc wB f) {m} (hm:m<l.length) (hk3:l[m].kind≠3) (hk4:l[m].kind≠4) (hd:(l.length:Int) - m≤f+1) (ind L w) (hi:ind.length+2*(f+1)≤1000) (hL0:0≤L) (hL3:L≤30) (hbw:Below wB.heap.size wB w) :
  Calls prog 72 #[.slice nA l.length nc,.int .i64 m,.string (str ind),.int .i64 L] w fun r w'=>r=.returned (.tuple #[.string (str (ind++uP l[m]++[32,123,10]++(bL l (eK l f) m (ind++[32,32]) L).1++ind++[125,10])),.int .i64 (bL l (eK l f) m (ind++[32,32]) L).2])∧Below w.heap.size w w':=by
 have hpk:=iL (L:=L) hN (f:=f) (k:=m) (ind:=ind++[32,32]) (by simp;omega) hL0
 have HKC:=hid (fun W (hW:Below wB.heap.size wB W)=>hK m (ind++[32,32]) L W (by omega) (by omega) (by omega) (by simp;omega) hL0 hL3 hW)
 obtain ⟨⟨pt,pl⟩,hp⟩:∃p,bL l (eK l f) m (ind++[32,32]) L=p:=⟨_,rfl⟩
 rw [hp] at hpk HKC ⊢
 simp only at HKC ⊢
 have hpl:(pt.length:Int)+8589934592*pz pl≤0+8589934592*L:=hpk.1
 have hpz:=Ah pl
 obtain ⟨ad,_,rfl,_,_⟩:=hR.at_ m hm
 obtain ⟨kA,kc,uA,uc,gA,gc,eA,ec,⟨c0,c1,c2,c3,c4,c5,c6,c7,c8⟩,hkr,hur,hgr,her,hbl⟩:=eG hR m hm
 have hlc:=hR.1
 have hml:=(hR.2 [] (by simp)).1
 obtain ⟨x,hx⟩:=nm_ (l[m])
 have hxN:qI x:=hx▸hN _ (g_ hm)
 have hxX:Jn x:=hx▸hX _ (g_ hm)
 rw [hx] at c0 c1 c2 c3 c4 c5 c6 c7 c8 hkr hur hgr her hk3 hk4 ⊢
 replace c0:=(hbw.cell (p:=ad.add (m*9)) hbl).trans c0
 replace c1:=(hbw.cell (p:=⟨(ad.add (m*9)).block,(ad.add (m*9)).off+1,none⟩) hbl).trans c1
 replace c2:=(hbw.cell (p:=⟨(ad.add (m*9)).block,(ad.add (m*9)).off+2,none⟩) hbl).trans c2
 replace c3:=(hbw.cell (p:=⟨(ad.add (m*9)).block,(ad.add (m*9)).off+3,none⟩) hbl).trans c3
 replace c4:=(hbw.cell (p:=⟨(ad.add (m*9)).block,(ad.add (m*9)).off+4,none⟩) hbl).trans c4
 replace c5:=(hbw.cell (p:=⟨(ad.add (m*9)).block,(ad.add (m*9)).off+5,none⟩) hbl).trans c5
 replace c6:=(hbw.cell (p:=⟨(ad.add (m*9)).block,(ad.add (m*9)).off+6,none⟩) hbl).trans c6
 replace c7:=(hbw.cell (p:=⟨(ad.add (m*9)).block,(ad.add (m*9)).off+7,none⟩) hbl).trans c7
 replace c8:=(hbw.cell (p:=⟨(ad.add (m*9)).block,(ad.add (m*9)).off+8,none⟩) hbl).trans c8
 replace hbl:=Y_ hbl hbw.size
 have hmz:(m:Int)<l.length:=by omega
 have hm0:(0:Int)≤m:=by omega
 obtain ⟨hd',hhd⟩:=nm_ (uP x)
 have hhl:=Ai hxN
 rw [hhd] at hhl ⊢
 have HUL:=hid (fun i hi=>Pe hxN (i:=i) hi)
 obtain ⟨xd,xk,xu,xn,xa,xe⟩:=x
 simp only at c0 c1 c2 c3 c4 c5 c6 c7 c8 hk3 hk4 hur HUL
 have hun:=hxN.unit
 simp only at hun
 have huc:=hur.1
 have hum:=(hur.2 [] (by simp)).1
 have hb3:(xd == 3)=false:=aW hk3
 have hb4:(xd == 4)=false:=aW hk4
 have ei:(str ind).size=ind.length:=bW ind
 obtain ⟨a1,h1⟩:=nm_ (ind++hd')
 obtain ⟨a2,h2⟩:=nm_ (a1++[32,123,10])
 obtain ⟨a3,h3⟩:=nm_ (a2++pt)
 obtain ⟨a4,h4⟩:=nm_ (a3++ind)
 obtain ⟨a6,h6⟩:=nm_ (ind++[32,32])
 rw [h1,h2,h3,h4]
 rw [h6] at HKC
 have l1:a1.length=ind.length+hd'.length:=by rw [←h1];simp
 have l2:a2.length=a1.length+3:=by rw [←h2];simp
 have l3:a3.length=a2.length+pt.length:=by rw [←h3];simp
 have l4:a4.length=a3.length+ind.length:=by rw [←h4];simp
 have e1:∀W,(Op.stringOp .add (str ind) (str hd')).run prog W=.ok (.string (str a1)) W:=fun W=>by rw [←h1];exact aM ind hd' (by omega) W
 have e2:∀W,(Op.stringOp .add (str a1) ⟨#[32,123,10]⟩).run prog W=.ok (.string (str a2)) W:=fun W=>by rw [←h2];exact aM a1 [32,123,10] (by simp;omega) W
 have e3:∀W,(Op.stringOp .add (str a2) (str pt)).run prog W=.ok (.string (str a3)) W:=fun W=>by rw [←h3];exact aM a2 pt (by omega) W
 have e4:∀W,(Op.stringOp .add (str a3) (str ind)).run prog W=.ok (.string (str a4)) W:=fun W=>by rw [←h4];exact aM a3 ind (by omega) W
 have e5:∀W,(Op.stringOp .add (str a4) ⟨#[125,10]⟩).run prog W=.ok (.string (str (a4++[125,10]))) W:=fun W=>aM a4 [125,10] (by simp;omega) W
 have e6:∀W,(Op.stringOp .add (str ind) ⟨#[32,32]⟩).run prog W=.ok (.string (str a6)) W:=fun W=>by rw [←h6];exact aM ind [32,32] (by simp;omega) W
 obtain ⟨JF,hJF⟩:∃JF:Nat→List UInt8,∀i,[117,110,105,116,32]++Lib.join ((xu.take i).map jZ) [44,32]=JF i:=⟨_,fun _=>rfl⟩
 have HJF:=hid hJF
 have hhd2:xd=2→hd'=JF 6:=fun h=>by subst h;rw [←hhd,←hJF];rfl
 have hhd1:xd=1→hd'=[112,97,114]:=fun h=>by subst h;rw [←hhd];rfl
 have hhd0:xd≠1→xd≠2→hd'=[115,101,113]:=fun h k=>by rw [←hhd];unfold uP;rw [K_ h,K_ k]
 have H:=hid (⟨hur,hun,hbw,hhd2,hhd1,hhd0⟩:_∧_∧_∧_∧_∧_)
 clear hJF hkr hur hgr her hR hx hxN hxX hN hX hun hbw hhd hhd2 hhd1 hhd0 h1 h2 h3 h4 h6 l1 l2 l3 l4 hhl hpk hpl hpz hp hK hk3 hk4 ei
 go_enter func72,ntmps72
 go_upto_block 0 with fail
 obtain ⟨w2,hw2⟩:=nm_ (w.alloc (.cells #[.int .i64 xd,.slice kA xk.length kc,.slice uA xu.length uc,.string xn,.slice gA xa.length gc,.int .i64 xe.op,.int .i64 xe.n,.string xe.name,.slice eA xe.kids.length ec] 43))
 obtain ⟨K,hKK⟩:=nm_ w.heap.size
 have HX:Hid (w2.heap[K]? = some (.cells #[.int .i64 xd,.slice kA xk.length kc,.slice uA xu.length uc,.string xn,.slice gA xa.length gc,.int .i64 xe.op,.int .i64 xe.n,.string xe.name,.slice eA xe.kids.length ec] 43 (0,0))∧Below w.heap.size w w2):=hid (by
  rw [←hw2,←hKK];exact ⟨I_ _ _,(J_ _ _).alloc le_ _⟩)
 rw [hw2,hKK]
 have hkl:=aC HX.out.1
 obtain ⟨b0,b1,b2,b3,b4,b5,b6,b7,b8⟩:=nV HX.out.1
 clear c0 c1 c2 c3 c4 c5 c6 c7 c8 hbl hw2
 go_cut [11] (fun s11 wx=>s11=.string (str hd')∧Below w2.heap.size w2 wx)
 case first=>
  clear e1 e2 e3 e4 e5 e6
  by_cases hk1:xd=1
  ·have hh:=H.out.2.2.2.2.1 hk1
   have hb1:(xd == 1)=true:=D_ hk1
   subst hk1
   go_wp2_with fail
   go_meet
   exact ⟨by rw [hh];rfl,J_ _ _⟩
  ·by_cases hk2:xd=2
   ·have hh:=H.out.2.2.2.1 hk2
    subst hk2
    go_wp2_with fail
    clear b0 b1 b2 b3 b4 b5 b6 b7 b8
    go_loopg [11,19] 8 (fun q s11 s19 wr=>∃i:Nat,s11=.string (str (JF i))∧s19=.int .i64 (i:Nat)∧i≤xu.length∧i≤6∧6 - i<q∧wr=w2)
    case atStart=>exact ⟨0,by rw [←HJF.out 0];simp [Lib.join_nil];rfl,rfl,h_ _,by omega,by omega,rfl⟩
    case round=>
     obtain ⟨i,rfl,rfl,hin,hi6,hiq,rfl⟩:=hrel
     obtain ⟨gk,rfl⟩:=pk_ gk 1 (by omega)
     obtain ⟨b0,b1,b2,b3,b4,b5,b6,b7,b8⟩:=nV HX.out.1
     have hjl:=HUL.out i hi6
     have hi0:(0:Int)≤i:=by omega
     have hjl2:(JF i).length≤400005:=by rw [←HJF.out i];simp only [O_,P_,b_];omega
     by_cases hlt:i<xu.length∧i≤5
     ·obtain ⟨hlt,hi5⟩:=hlt
      have hiz:(i:Int)<xu.length:=by omega
      have hi5z:(i:Int)≤5:=by omega
      obtain ⟨ud,rfl,d0,hdl⟩:=iD (H.out.1.below (H.out.2.2.1.trans (HX.out.2.mono H.out.2.2.1.size))) i hlt
      obtain ⟨u,hu⟩:=nm_ (xu[i])
      have hus:=H.out.2.1 u (hu▸g_ hlt)
      rw [hu] at d0
      have hst:JF (i+1)=JF i++((if i=0 then [] else [44,32])++jZ u):=by
       have he:((xu.take i).map jZ).isEmpty=decide (i=0):=by
        cases i with
        | zero=>simp
        | succ i=>cases xu with | nil=>simp at hlt | cons _ _=>simp
       rw [←HJF.out,←HJF.out,Z_ hlt,hu,f_,List.map_cons,List.map_nil,Aj,he,p_]
       by_cases h0:i=0
       ·simp [h0]
       ·simp [h0]
      by_cases hz:i=0
      ·have hzp:¬(0:Int)<i:=by omega
       rw [M_ hz,List.nil_append] at hst
       have q1:∀W,(Op.stringOp .add (str (JF i)) u).run prog W=.ok (.string (str (JF (i+1)))) W:=fun W=>by
        have:=aM (JF i) (jZ u) (by rw [cA];omega) W
        rw [←hst] at this
        rwa [show str (jZ u)=u from dO u] at this
       clear hst hu hus hz hjl hjl2
       go_wp2_with fail
       go_roundg gk
       case measure=>omega
       case rel=>exact ⟨i+1,rfl,by go_num,by omega,by omega,by omega,rfl⟩
      ·have hzp:(0:Int)<i:=by omega
       rw [K_ hz] at hst
       have q0:∀W,(Op.stringOp .add (str (JF i)) ⟨#[44,32]⟩).run prog W=.ok (.string (str (JF i++[44,32]))) W:=fun W=>aM (JF i) [44,32] (by simp;omega) W
       have q1:∀W,(Op.stringOp .add (str (JF i++[44,32])) u).run prog W=.ok (.string (str (JF (i+1)))) W:=fun W=>by
        have:=aM (JF i++[44,32]) (jZ u) (by rw [cA];simp;omega) W
        rw [p_,←hst] at this
        rwa [show str (jZ u)=u from dO u] at this
       clear hst hu hus hz hjl hjl2
       go_wp2_with fail
       go_roundg gk
       case measure=>omega
       case rel=>exact ⟨i+1,rfl,by go_num,by omega,by omega,by omega,rfl⟩
     ·have hJT:JF i=hd':=by
       rw [hh,←HJF.out,←HJF.out]
       by_cases h5:i=6
       ·rw [h5]
       ·rw [List.take_of_length_le (by omega:xu.length≤i),List.take_of_length_le (by omega:xu.length≤6)]
      have HJT:=hid hJT
      have key:xu.length≤i∨i<xu.length∧¬i≤5:=by omega
      clear hJT hjl hjl2 hlt
      rcases key with h1 | ⟨h1,h2⟩
      ·have hiz:¬(i:Int)<xu.length:=by omega
       go_wp2_with fail
       go_meet
       exact ⟨by rw [HJT.out],J_ _ _⟩
      ·have hiz:(i:Int)<xu.length:=by omega
       have hi5z:¬(i:Int)≤5:=by omega
       go_wp2_with fail
       go_meet
       exact ⟨by rw [HJT.out],J_ _ _⟩
   ·have hh:=H.out.2.2.2.2.2 hk1 hk2
    have hb1:(xd == 1)=false:=aW hk1
    have hb2:(xd == 2)=false:=aW hk2
    go_wp2_with fail
    go_meet
    exact ⟨by rw [hh];rfl,J_ _ _⟩
 case rest=>
  obtain ⟨rfl,hbx⟩:=hcut
  have HB3:=hid (HX.out.2.trans (hbx.mono HX.out.2.size))
  clear hbx b0 b1 b2 b3 b4 b5 b6 b7 b8
  have HC3:=hid (HKC.out _ (H.out.2.2.1.trans (HB3.out.mono H.out.2.2.1.size)))
  go_wp2_with fail
  refine HC3.out.mono ?_
  rintro r w4 ⟨rfl,hb4⟩
  have HB4:=tm_ HB3 hb4
  clear hb4
  go_wp2_with fail
  refine L_ (v:=.tuple #[.string (str (a4++[125,10])),.int .i64 pl]) (by simp [results,results72,go_sem, *]) rfl ?_
  exact ⟨rfl,hKK▸HB4.out⟩
end Go.Proofs.YtgcfjkfipkfijaaGreatDoor
