/- Part 32 of the proof of rtrees_card; no conditions. -/
import Derived.Test.YtgcfjkfipkfijaaGreatDoorTr01
import Derived.Test.YtgcfjkfipkfijaaGreatDoorTr31
import Derived.Test.YtgcfjkfipkfijaaGreatDoorTr24
set_option maxRecDepth 100000
set_option maxHeartbeats 16000000
namespace Go.Proofs.YtgcfjkfipkfijaaGreatDoor
open Go Go.RowKit Go.Lib _root_.Go.Proofs.Tryz
structure Jn (x:Nd):Prop where
 ex:Jb x.e
 arg:∀a,a∈x.args→Jb a.e
theorem Pd {xs:List Ar} (h:∀a,a∈xs→a.name.size≤65536∧dU a.e) {i:Nat} (hi:i≤5):(Lib.join ((xs.take i).map kF) [44,32]).length≤400000:=by
 have h1:=pB [44,32] 70000 ((xs.take i).map kF) (fun x hx=>by
  obtain ⟨a,ha,rfl⟩:=List.mem_map.1 hx
  exact Et (h a (List.mem_of_mem_take ha)))
 have h2:((xs.take i).map kF).length≤5:=by rw [U_];exact d_ (List.length_take_le _ _) hi
 have h3:=Nat.mul_le_mul_right (70000+2) h2
 simp only [P_,b_] at h1
 omega
theorem Jo {P l nA nc wB} (hN:∀x,x∈l→qI x) (hX:∀x,x∈l→Jn x) (hR:aO yS P wB nA nc l) {m} (hm:m<l.length) (hk3:l[m].kind=3) (ind L w) (hi:ind.length≤1000) (hbw:Below wB.heap.size wB w) :
  Calls prog 72 #[.slice nA l.length nc,.int .i64 m,.string (str ind),.int .i64 L] w fun r w'=>r=.returned (.tuple #[.string (str (mK l[m] ind)),.int .i64 L])∧Below w.heap.size w w':=by
 obtain ⟨ad,_,rfl,_,_⟩:=hR.at_ m hm
 obtain ⟨kA,kc,uA,uc,gA,gc,eA,ec,⟨c0,c1,c2,c3,c4,c5,c6,c7,c8⟩,hkr,hur,hgr,her,hbl⟩:=eG hR m hm
 have hlc:=hR.1
 have hml:=(hR.2 [] (by simp)).1
 obtain ⟨x,hx⟩:=nm_ (l[m])
 have hxN:qI x:=hx▸hN _ (g_ hm)
 have hxX:Jn x:=hx▸hX _ (g_ hm)
 rw [hx] at c0 c1 c2 c3 c4 c5 c6 c7 c8 hkr hur hgr her hk3 ⊢
 replace c0:=(hbw.cell (p:=ad.add (m*9)) hbl).trans c0
 replace c1:=(hbw.cell (p:=⟨(ad.add (m*9)).block,(ad.add (m*9)).off+1,none⟩) hbl).trans c1
 replace c2:=(hbw.cell (p:=⟨(ad.add (m*9)).block,(ad.add (m*9)).off+2,none⟩) hbl).trans c2
 replace c3:=(hbw.cell (p:=⟨(ad.add (m*9)).block,(ad.add (m*9)).off+3,none⟩) hbl).trans c3
 replace c4:=(hbw.cell (p:=⟨(ad.add (m*9)).block,(ad.add (m*9)).off+4,none⟩) hbl).trans c4
 replace c5:=(hbw.cell (p:=⟨(ad.add (m*9)).block,(ad.add (m*9)).off+5,none⟩) hbl).trans c5
 replace c6:=(hbw.cell (p:=⟨(ad.add (m*9)).block,(ad.add (m*9)).off+6,none⟩) hbl).trans c6
 replace c7:=(hbw.cell (p:=⟨(ad.add (m*9)).block,(ad.add (m*9)).off+7,none⟩) hbl).trans c7
 replace c8:=(hbw.cell (p:=⟨(ad.add (m*9)).block,(ad.add (m*9)).off+8,none⟩) hbl).trans c8
 replace hbl:=Y_ hbl hbw.size
 have hmz:(m:Int)<l.length:=by omega
 have hm0:(0:Int)≤m:=by omega
 obtain ⟨xd,xk,xu,xn,xa,xe⟩:=x
 simp only at c0 c1 c2 c3 c4 c5 c6 c7 c8 hk3 hgr
 subst hk3
 obtain ⟨F,hF⟩:=nm_ (mK ⟨3,xk,xu,xn,xa,xe⟩ ind)
 rw [hF]
 unfold mK at hF
 simp only at hF
 have hnl:=hxN.name
 simp only at hnl
 obtain ⟨a1,h1⟩:=nm_ (ind++[112,104,97,115,101,32])
 rw [h1] at hF
 obtain ⟨a2,h2⟩:=nm_ (a1++jZ xn)
 rw [h2] at hF
 obtain ⟨a3,h3⟩:=nm_ (a2++[40])
 rw [h3] at hF
 have l1:a1.length=ind.length+6:=by rw [←h1];simp
 have l2:a2.length=a1.length+xn.size:=by rw [←h2,O_,cA]
 have l3:a3.length=a2.length+1:=by rw [←h3];simp
 have e1:∀W,(Op.stringOp .add (str ind) ⟨#[112,104,97,115,101,32]⟩).run prog W=.ok (.string (str a1)) W:=fun W=>by rw [←h1];exact aM ind [112,104,97,115,101,32] (by simp;omega) W
 have e2:∀W,(Op.stringOp .add (str a1) xn).run prog W=.ok (.string (str a2)) W:=fun W=>by
  have:=aM a1 (jZ xn) (by rw [cA];omega) W
  rw [h2] at this
  rwa [show str (jZ xn)=xn from dO xn] at this
 have e3:∀W,(Op.stringOp .add (str a2) ⟨#[40]⟩).run prog W=.ok (.string (str a3)) W:=fun W=>by rw [←h3];exact aM a2 [40] (by simp;omega) W
 have ha3:a3.length≤70000:=by omega
 have hal:=hxN.arg
 have hax:=hxX.arg
 simp only at hal hax
 have hgc:=hgr.1
 have hgm:=(hgr.2 [] (by simp)).1
 obtain ⟨JF,hJF⟩:∃JF:Nat→List UInt8,∀i,Lib.join ((xa.take i).map kF) [44,32]=JF i:=⟨_,fun _=>rfl⟩
 have HJF:=hid hJF
 have H:=hm_ hgr hal hax hbw hF
 clear hJF hkr hur hgr her hR hx hxN hxX hN hX hal hax hbw hF h1 h2 h3 l1 l2 l3 hnl
 go_enter func72,ntmps72
 go_upto_region 2 with fail
 obtain ⟨w2,hw2⟩:=nm_ (w.alloc (.cells #[.int .i64 3,.slice kA xk.length kc,.slice uA xu.length uc,.string xn,.slice gA xa.length gc,.int .i64 xe.op,.int .i64 xe.n,.string xe.name,.slice eA xe.kids.length ec] 43))
 obtain ⟨K,hKK⟩:=nm_ w.heap.size
 have HX:Hid (w2.heap[K]? = some (.cells #[.int .i64 3,.slice kA xk.length kc,.slice uA xu.length uc,.string xn,.slice gA xa.length gc,.int .i64 xe.op,.int .i64 xe.n,.string xe.name,.slice eA xe.kids.length ec] 43 (0,0))∧Below w.heap.size w w2):=hid (by
  rw [←hw2,←hKK];exact ⟨I_ _ _,(J_ _ _).alloc le_ _⟩)
 rw [hw2,hKK]
 have hkl:=aC HX.out.1
 obtain ⟨b0,b1,b2,b3,b4,b5,b6,b7,b8⟩:=nV HX.out.1
 clear c0 c1 c2 c3 c4 c5 c6 c7 c8 hbl hw2
 go_wp2_with fail
 clear b0 b1 b2 b3 b4 b5 b6 b7 b8 e1 e2 e3
 go_loopg [12,13] 7 (fun q s12 s13 wr=>∃i:Nat,s12=.string (str (a3++JF i))∧s13=.int .i64 (i:Nat)∧i≤xa.length∧i≤5∧5 - i<q∧Below w2.heap.size w2 wr)
 case atStart=>exact ⟨0,by rw [←HJF.out 0];simp [Lib.join_nil],rfl,h_ _,by omega,by omega,J_ _ _⟩
 case round=>
  obtain ⟨i,rfl,rfl,hin,hi5,hiq,hb⟩:=hrel
  obtain ⟨gk,rfl⟩:=pk_ gk 1 (by omega)
  have hbx:=(hb.block K hkl).trans HX.out.1
  have hkl2:=aC hbx
  obtain ⟨b0,b1,b2,b3,b4,b5,b6,b7,b8⟩:=nV hbx
  have hjl:=Pd (i:=i) H.out.2.1 hi5
  have hi0:(0:Int)≤i:=by omega
  obtain ⟨J,hJ0⟩:=nm_ (JF i)
  have hJ:Lib.join ((xa.take i).map kF) [44,32]=J:=(HJF.out i).trans hJ0
  rw [hJ] at hjl
  rw [hJ0]
  by_cases hlt:i<xa.length∧i≤4
  ·obtain ⟨hlt,hi4⟩:=hlt
   have hiz:(i:Int)<xa.length:=by omega
   have hi4z:(i:Int)≤4:=by omega
   have hrow:aO oH P wr gA gc xa:=H.out.1.below (H.out.2.2.2.1.trans ((HX.out.2.trans (hb.mono HX.out.2.size)).mono H.out.2.2.2.1.size))
   obtain ⟨gd,_,rfl,_,_⟩:=hrow.at_ i hlt
   obtain ⟨A,ac,d0,d1,d2,d3,d4,hex,hdl⟩:=kO hrow i hlt
   obtain ⟨a,ha⟩:=nm_ (xa[i])
   have hain:a∈xa:=ha▸g_ hlt
   have hsz:=H.out.2.1 a hain
   have hsx:=H.out.2.2.1 a hain
   have htk:xa.take (i+1)=xa.take i++[a]:=by rw [Z_ hlt,ha]
   rw [ha] at d0 d1 d2 d3 d4 hex
   have hpl:=kX hsz.2
   have HPR:=hid (fun W (hW:Below wr.heap.size wr W)=>xS a.e A ac W ((hex.2 [] (by simp)).keep (Same.of_below hW)) hex.1 hsz.2 hsx)
   obtain ⟨nm,o,n',nm',ks⟩:=a
   simp only [Ex.op,Ex.n,Ex.name,Ex.kids] at d0 d1 d2 d3 d4
   obtain ⟨pt,hpt⟩:=nm_ (kD (.mk o n' nm' ks))
   simp only [hpt] at HPR hpl
   have hnm:nm.size≤65536:=hsz.1
   have hsep:Lib.join ((xa.take (i+1)).map kF) [44,32]=J++((if i=0 then [] else [44,32])++(jZ nm++[32,61,32]++pt)):=by
    have he:((xa.take i).map kF).isEmpty=decide (i=0):=by
     cases i with
     | zero=>simp
     | succ i=>cases xa with | nil=>simp at hlt | cons _ _=>simp
    rw [htk,f_,List.map_cons,List.map_nil,Aj,hJ,he]
    have hat:kF ⟨nm,.mk o n' nm' ks⟩=jZ nm++[32,61,32]++pt:=by unfold kF;rw [hpt]
    rw [hat]
    by_cases h0:i=0
    ·simp [h0]
    ·simp [h0]
   by_cases hz:i=0
   ·have hzp:¬(0:Int)<i:=by omega
    rw [M_ hz,List.nil_append] at hsep
    obtain ⟨s0,hs0⟩:=nm_ (a3++J)
    obtain ⟨s1,hs1⟩:=nm_ (s0++jZ nm)
    obtain ⟨s2,hs2⟩:=nm_ (s1++[32,61,32])
    have l0:s0.length=a3.length+J.length:=by rw [←hs0,O_]
    have l1:s1.length=s0.length+nm.size:=by rw [←hs1,O_,cA]
    have l2:s2.length=s1.length+3:=by rw [←hs2];simp
    have hfin:s2++pt=a3++JF (i+1):=by rw [←HJF.out,hsep,←hs2,←hs1,←hs0];simp
    have e1:∀W,(Op.stringOp .add (str s0) nm).run prog W=.ok (.string (str s1)) W:=fun W=>by
     have:=aM s0 (jZ nm) (by rw [cA];omega) W
     rw [hs1] at this
     rwa [show str (jZ nm)=nm from dO nm] at this
    have e2:∀W,(Op.stringOp .add (str s1) ⟨#[32,61,32]⟩).run prog W=.ok (.string (str s2)) W:=fun W=>by rw [←hs2];exact aM s1 [32,61,32] (by simp;omega) W
    have e3:∀W,(Op.stringOp .add (str s2) (str pt)).run prog W=.ok (.string (str (s2++pt))) W:=fun W=>aM s2 pt (by omega) W
    have HE:=hid hfin
    have HBR:=hj_ hb hbx
    rw [hs0]
    clear hb hbx hrow hex ha hain hsz hsx htk hpt hsep hJ hJ0 hs0 hs1 hs2 l0 l1 l2 hfin hjl hpl hz
    go_wp2_with fail
    go_region_with (go_at_call 104;refine (HPR.out _ ?_).mono ?_;(first | exact J_ _ _ | exact (J_ _ _).drew);rintro r w9 ⟨rfl,hb9⟩;have H9:Hid (Below w2.heap.size w2 w9):=hid (by first | exact HBR.out.1.trans (hb9.mono HBR.out.1.size) | exact HBR.out.1.drew.trans (hb9.mono HBR.out.1.size));have hb90:Below wr.heap.size wr w9:=(by first | exact hb9 | exact (J_ _ _).drew.trans hb9);have hbx9:=(hb90.block K hkl2).trans HBR.out.2;obtain ⟨y0,y1,y2,y3,y4,y5,y6,y7,y8⟩:=nV hbx9;have hl9:=aC hbx9;have z0:=(hb90.cell (p:=gd.add (i*5)) hdl).trans d0;have hdl9:=Y_ hdl hb90.size;clear hb9 hb90 hbx9)
    all_goals
     rw [HE.out]
     go_wp2_with fail
     go_roundg gk
     case measure=>omega
     case rel=>exact ⟨i+1,rfl,by go_num,by omega,by omega,by omega,H9.out⟩
   ·rw [K_ hz] at hsep
    have hzp:(0:Int)<i:=by omega
    obtain ⟨s9,hs9⟩:=nm_ (a3++J)
    obtain ⟨s0,hs0⟩:=nm_ (s9++[44,32])
    obtain ⟨s1,hs1⟩:=nm_ (s0++jZ nm)
    obtain ⟨s2,hs2⟩:=nm_ (s1++[32,61,32])
    have l9:s9.length=a3.length+J.length:=by rw [←hs9,O_]
    have l0:s0.length=s9.length+2:=by rw [←hs0];simp
    have l1:s1.length=s0.length+nm.size:=by rw [←hs1,O_,cA]
    have l2:s2.length=s1.length+3:=by rw [←hs2];simp
    have hfin:s2++pt=a3++JF (i+1):=by rw [←HJF.out,hsep,←hs2,←hs1,←hs0,←hs9];simp
    have e0:∀W,(Op.stringOp .add (str s9) ⟨#[44,32]⟩).run prog W=.ok (.string (str s0)) W:=fun W=>by rw [←hs0];exact aM s9 [44,32] (by simp;omega) W
    have e1:∀W,(Op.stringOp .add (str s0) nm).run prog W=.ok (.string (str s1)) W:=fun W=>by
     have:=aM s0 (jZ nm) (by rw [cA];omega) W
     rw [hs1] at this
     rwa [show str (jZ nm)=nm from dO nm] at this
    have e2:∀W,(Op.stringOp .add (str s1) ⟨#[32,61,32]⟩).run prog W=.ok (.string (str s2)) W:=fun W=>by rw [←hs2];exact aM s1 [32,61,32] (by simp;omega) W
    have e3:∀W,(Op.stringOp .add (str s2) (str pt)).run prog W=.ok (.string (str (s2++pt))) W:=fun W=>aM s2 pt (by omega) W
    have HE:=hid hfin
    have HBR:=hj_ hb hbx
    rw [hs9]
    clear hb hbx hrow hex ha hain hsz hsx htk hpt hsep hJ hJ0 hs0 hs1 hs2 hs9 l0 l1 l2 l9 hfin hjl hpl hz
    go_wp2_with fail
    go_region_with (go_at_call 104;refine (HPR.out _ ?_).mono ?_;(first | exact J_ _ _ | exact (J_ _ _).drew);rintro r w9 ⟨rfl,hb9⟩;have H9:Hid (Below w2.heap.size w2 w9):=hid (by first | exact HBR.out.1.trans (hb9.mono HBR.out.1.size) | exact HBR.out.1.drew.trans (hb9.mono HBR.out.1.size));have hb90:Below wr.heap.size wr w9:=(by first | exact hb9 | exact (J_ _ _).drew.trans hb9);have hbx9:=(hb90.block K hkl2).trans HBR.out.2;obtain ⟨y0,y1,y2,y3,y4,y5,y6,y7,y8⟩:=nV hbx9;have hl9:=aC hbx9;have z0:=(hb90.cell (p:=gd.add (i*5)) hdl).trans d0;have hdl9:=Y_ hdl hb90.size;clear hb9 hb90 hbx9)
    all_goals
     rw [HE.out]
     go_wp2_with fail
     go_roundg gk
     case measure=>omega
     case rel=>exact ⟨i+1,rfl,by go_num,by omega,by omega,by omega,H9.out⟩
  ·have hJT:J=qO xa:=by
    rw [←hJ]
    unfold qO
    by_cases h5:i=5
    ·rw [h5]
    ·rw [List.take_of_length_le (by omega),List.take_of_length_le (by omega)]
   have hF:=H.out.2.2.2.2
   rw [←hJT] at hF
   obtain ⟨s0,hs0⟩:=nm_ (a3++J)
   rw [hs0] at hF
   have l0:s0.length=a3.length+J.length:=by rw [←hs0,O_]
   have e1:∀W,(Op.stringOp .add (str s0) ⟨#[41,59,10]⟩).run prog W=.ok (.string (str F)) W:=fun W=>by rw [←hF];exact aM s0 [41,59,10] (by simp;omega) W
   have HBR:=hid (HX.out.2.trans (hb.mono HX.out.2.size))
   rw [hs0]
   have key:xa.length≤i∨i<xa.length∧¬i≤4:=by omega
   clear hb hbx hJ hJ0 hs0 l0 hF hJT hjl hlt
   rcases key with h1 | ⟨h1,h2⟩
   ·have hiz:¬(i:Int)<xa.length:=by omega
    go_wp2_with fail
    refine L_ (v:=.tuple #[.string (str F),.int .i64 L]) (by simp [results,results72,go_sem, *]) rfl ?_
    exact ⟨rfl,by rw [hKK] at HBR;exact hKK▸HBR.out⟩
   ·have hiz:(i:Int)<xa.length:=by omega
    have hi4z:¬(i:Int)≤4:=by omega
    go_wp2_with fail
    refine L_ (v:=.tuple #[.string (str F),.int .i64 L]) (by simp [results,results72,go_sem, *]) rfl ?_
    exact ⟨rfl,by rw [hKK] at HBR;exact hKK▸HBR.out⟩
def xT (r:tL) (w:World) (e:Ending) (w':World):Prop:=(∃b:Bool,e=.returned (.bool b)∧(b=true→rI r∧∀x,x∈r.nodes→Jn x))∧Below w.heap.size w w'
theorem jD {r w w'} (h:Below w.heap.size w w'):xT r w (.returned (.bool false)) w':=⟨⟨false,rfl,fun h=>by cases h⟩,h⟩
theorem Fq {P} (r pA pc nA nc w) (h:kI P w r pA pc nA nc) (hr:Sv r) :
  Calls prog 12 #[iG r pA pc nA nc] w (xT r w):=by
 obtain ⟨w1,hw1,hb1,_⟩:=alo_ w (.cells #[.string r.name,.slice pA r.params.length pc,.slice nA r.nodes.length nc] 26)
 have hx1:w1.heap[w.heap.size]? = some (.cells #[.string r.name,.slice pA r.params.length pc,.slice nA r.nodes.length nc] 26 (0,0)):=hw1▸I_ _ _
 have hpm:=(h.prms.2 [] (by simp)).1
 have hpc:=h.prms.1
 have hnm:=(h.nds.2 [] (by simp)).1
 have hnc:=h.nds.1
 have H:=hl_ (h.below hb1) hr hb1 hx1
 have HW1:=hid hw1
 obtain ⟨⟨x0,x1,x2⟩,_⟩:=bH hx1
 have hlx:=aC hx1
 clear h hr hb1 hx1 hw1
 go_enter func12,ntmps12
 go_upto_region 1 with fail
 rw [HW1.out]
 by_cases h1:200<r.name.size∨50<r.params.length∨50<r.nodes.length
 ·have key:200<r.name.size∨¬200<r.name.size∧(50<r.params.length∨¬50<r.params.length∧50<r.nodes.length):=by omega
  clear h1
  rcases key with h1 | ⟨h1,h2 | ⟨h2,h3⟩⟩
  all_goals
   go_wp2_with fail
   go_ret
   exact jD H.out.2.2.1
 have h1a:¬200<r.name.size:=by omega
 have h1b:¬50<r.params.length:=by omega
 have h1c:¬50<r.nodes.length:=by omega
 clear h1
 go_wp2_with fail
 go_loopg [3] (r.params.length+1) (fun q s3 wz=>∃i:Nat,s3=.int .i64 (i:Nat)∧i≤r.params.length∧r.params.length - i<q∧(∀p,p∈r.params.take i→p.name.size≤200)∧Below w1.heap.size w1 wz)
 case atStart=>exact ⟨0,rfl,h_ _,by omega,fun p hp=>by simp at hp,J_ _ _⟩
 case round=>
  obtain ⟨i,rfl,hin,hiq,hal,hbw⟩:=hrel
  obtain ⟨gk,rfl⟩:=pk_ gk 1 (by omega)
  have hxr:=bp_ hbw H.out.2.2.2
  obtain ⟨⟨x0,x1,x2⟩,_⟩:=bH hxr
  have hlx:=aC hxr
  have hz0:(0:Int)≤i:=by omega
  by_cases hlt:i<r.params.length
  ·obtain ⟨ad,rfl,c0,_,_,hpl⟩:=jR (H.out.1.below hbw).prms i hlt
   have hzi:(i:Int)<r.params.length:=by omega
   have HB:=hj_ hal hbw
   clear hal hbw hxr
   by_cases h200:200<r.params[i].name.size
   ·go_wp2_with fail
    go_ret
    exact jD (H.out.2.2.1.trans (HB.out.2.mono H.out.2.2.1.size))
   ·go_wp2_with fail
    go_roundg gk
    case measure=>omega
    case rel=>exact ⟨i+1,by go_num,by omega,by omega,sS HB.out.1 hlt (by omega),HB.out.2⟩
  ·obtain rfl:i=r.params.length:=by omega
   have HP:=hid (pZ hal)
   have HB:=hid hbw
   clear hal hbw hxr
   go_wp2_with fail
   go_loopg [4] (r.nodes.length+1) (fun q s4 wz=>∃i:Nat,s4=.int .i64 (i:Nat)∧i≤r.nodes.length∧r.nodes.length - i<q∧(∀x,x∈r.nodes.take i→BK x∧Jn x)∧Below w1.heap.size w1 wz)
   case atStart=>exact ⟨0,rfl,h_ _,by omega,fun p hp=>by simp at hp,HB.out⟩
   case round=>
    obtain ⟨i,rfl,hin,hiq,hal,hbw⟩:=hrel
    obtain ⟨gj,rfl⟩:=pk_ gk 1 (by omega)
    have hxr:=bp_ hbw H.out.2.2.2
    obtain ⟨⟨x0,x1,x2⟩,_⟩:=bH hxr
    have hlx:=aC hxr
    have hz0:(0:Int)≤i:=by omega
    by_cases hlt:i<r.nodes.length
    ·have hR:=(H.out.1.below hbw).nds
     obtain ⟨ad,rfl⟩:=fN hR i hlt
     obtain ⟨kA,kc,uA,uc,gA,gc,eA,ec,⟨c0,c1,c2,c3,c4,c5,c6,c7,c8⟩,hr1,hr2,hr3,hr4,hnl⟩:=eG hR i hlt
     have hok:=H.out.2.1.nd _ (g_ hlt)
     obtain ⟨x,hx⟩:=nm_ (r.nodes[i])
     rw [hx] at c0 c1 c2 c3 c4 c5 c6 c7 c8 hr1 hr2 hr3 hr4 hok
     have hzi:(i:Int)<r.nodes.length:=by omega
     obtain ⟨w2,hw2⟩:=nm_ (wr.alloc (.cells #[.int .i64 x.kind,.slice kA x.kids.length kc,.slice uA x.units.length uc,.string x.name,.slice gA x.args.length gc,.int .i64 x.e.op,.int .i64 x.e.n,.string x.e.name,.slice eA x.e.kids.length ec] 43))
     obtain ⟨N,hN⟩:=nm_ wr.heap.size
     have hb2:Below wr.heap.size wr w2:=hw2▸(J_ _ _).alloc le_ _
     have hy2:w2.heap[N]? = some (.cells #[.int .i64 x.kind,.slice kA x.kids.length kc,.slice uA x.units.length uc,.string x.name,.slice gA x.args.length gc,.int .i64 x.e.op,.int .i64 x.e.n,.string x.e.name,.slice eA x.e.kids.length ec] 43 (0,0)):=by rw [←hN,←hw2];exact I_ _ _
     have hum:=(hr2.2 [] (by simp)).1
     have huc:=hr2.1
     have hgm:=(hr3.2 [] (by simp)).1
     have hgc:=hr3.1
     have HW2:=hid hw2
     have HN:=hid (⟨hal,hbw.trans (hb2.mono hbw.size),hy2,hok,hr2.below hb2,hr3.below hb2,hx⟩:_∧_∧_∧_∧_∧_∧_)
     have HWT:=hid (uO (SizeOf.sizeOf x.e+1) x.e eA ec 200 w2 (by omega) (by decide) (by decide) hok.ex ((hr4.below hb2).2 [] (by simp)) hr4.1)
     obtain ⟨⟨y0,y1,y2,y3,y4⟩,y5,y6,y7,y8⟩:=vK hy2
     have hly:=aC hy2
     have HNN:=hid hN
     clear hal hbw hxr hR hr1 hr2 hr3 hr4 hok hx hw2 hb2 hy2
     go_upto_region 12 with fail
     rw [HW2.out]
     clear x0 x1 x2 hlx c0 c1 c2 c3 c4 c5 c6 c7 c8 hnl
     by_cases h1:50<x.kids.length∨50<x.units.length∨200<x.name.size∨50<x.args.length
     ·have key:50<x.kids.length∨¬50<x.kids.length∧(50<x.units.length∨¬50<x.units.length∧(200<x.name.size∨¬200<x.name.size∧50<x.args.length)):=by omega
      clear h1
      rcases key with h1 | ⟨h1,h2 | ⟨h2,h3 | ⟨h3,h4⟩⟩⟩
      all_goals
       go_wp2_with fail
       go_ret
       exact jD (H.out.2.2.1.trans (HN.out.2.1.mono H.out.2.2.1.size))
     have h1a:¬50<x.kids.length:=by omega
     have h1b:¬50<x.units.length:=by omega
     have h1c':¬200<x.name.size:=by omega
     have h1d:¬50<x.args.length:=by omega
     clear h1
     go_wp2_with fail
     refine HWT.out.mono ?_
     rintro e w3 ⟨z,rfl,hz1,hz2,hb3,hzx⟩
     have H3:=hl_ (HN.out.2.1.trans (hb3.mono HN.out.2.1.size)) ((hb3.block _ hly).trans HN.out.2.2.1) (HN.out.2.2.2.2.1.below hb3) (HN.out.2.2.2.2.2.1.below hb3)
     clear hb3 y0 y1 y2 y3 y4 y5 y6 y7 y8 hly
     by_cases hz:z=0
     ·clear hzx
      subst hz
      go_wp2_with fail
      go_ret
      exact jD (H.out.2.2.1.trans (H3.out.1.mono H.out.2.2.1.size))
     have hzb:=aW hz
     have HZX:=hid (hzx (by omega))
     clear hzx
     obtain ⟨⟨_,_,y2,_,y4⟩,_⟩:=vK H3.out.2.1
     have hly:=aC H3.out.2.1
     go_wp2_with fail
     clear y2 y4 hly
     go_loopg [6] (x.units.length+1) (fun q s6 wz=>∃j:Nat,s6=.int .i64 (j:Nat)∧j≤x.units.length∧x.units.length - j<q∧(∀u,u∈x.units.take j→u.size≤200)∧Below w3.heap.size w3 wz)
     case atStart=>exact ⟨0,rfl,h_ _,by omega,fun p hp=>by simp at hp,J_ _ _⟩
     case round=>
      obtain ⟨j,rfl,hjn,hjq,hul,hbz⟩:=hrel
      obtain ⟨gi,rfl⟩:=pk_ gk 1 (by omega)
      have hyr:=bp_ hbz H3.out.2.1
      obtain ⟨⟨_,_,y2,_,y4⟩,_⟩:=vK hyr
      have hly:=aC hyr
      have hj0:(0:Int)≤j:=by omega
      by_cases hjt:j<x.units.length
      ·obtain ⟨ud,rfl,u0,hudl⟩:=iD (H3.out.2.2.1.below hbz) j hjt
       have hji:(j:Int)<x.units.length:=by omega
       have HZ:=hj_ hul hbz
       clear hul hbz hyr
       by_cases h200:200<x.units[j].size
       ·go_wp2_with fail
        go_ret
        exact jD (H.out.2.2.1.trans ((H3.out.1.trans (HZ.out.2.mono H3.out.1.size)).mono H.out.2.2.1.size))
       ·go_wp2_with fail
        go_roundg gi
        case measure=>omega
        case rel=>exact ⟨j+1,by go_num,by omega,by omega,sS HZ.out.1 hjt (by omega),HZ.out.2⟩
      ·obtain rfl:j=x.units.length:=by omega
       have HU:=hj_ (pZ hul) hbz
       clear hul hbz hyr
       go_wp2_with fail
       clear y2 y4 hly
       go_loopg [7] (x.args.length+1) (fun q s7 wz=>∃j:Nat,s7=.int .i64 (j:Nat)∧j≤x.args.length∧x.args.length - j<q∧(∀a,a∈x.args.take j→a.name.size≤200∧Jb a.e)∧Below w3.heap.size w3 wz)
       case atStart=>exact ⟨0,rfl,h_ _,by omega,fun p hp=>by simp at hp,HU.out.2⟩
       case round=>
        obtain ⟨j,rfl,hjn,hjq,hul,hbz⟩:=hrel
        obtain ⟨gi,rfl⟩:=pk_ gk 1 (by omega)
        have hyr:=bp_ hbz H3.out.2.1
        obtain ⟨⟨_,_,y2,_,y4⟩,_⟩:=vK hyr
        have hly:=aC hyr
        have hj0:(0:Int)≤j:=by omega
        by_cases hjt:j<x.args.length
        ·have hgr:=H3.out.2.2.2.below hbz
         obtain ⟨gd,rfl⟩:=fN hgr j hjt
         obtain ⟨aA,ac,c0,c1,c2,c3,c4,hex,hgl⟩:=kO hgr j hjt
         have hji:(j:Int)<x.args.length:=by omega
         have hok:=(HN.out.2.2.2.1.arg _ (g_ hjt)).2
         have HWA:=hid (uO (SizeOf.sizeOf x.args[j].e+1) x.args[j].e aA ac 200 wr (by omega) (by decide) (by decide) hok (hex.2 [] (by simp)) hex.1)
         have HZ:=hj_ hul hbz
         clear hul hbz hyr hgr hex hok
         by_cases h200:200<x.args[j].name.size
         ·go_wp2_with fail
          go_ret
          exact jD (H.out.2.2.1.trans ((H3.out.1.trans (HZ.out.2.mono H3.out.1.size)).mono H.out.2.2.1.size))
         ·go_wp2_with fail
          refine HWA.out.mono ?_
          rintro e w5 ⟨z',rfl,hz3,hz4,hb5,hzy⟩
          have H5:=hid (HZ.out.2.trans (hb5.mono HZ.out.2.size))
          clear hb5 c0 c1 c2 c3 c4 hgl y2 y4 hly
          by_cases hz':z'=0
          ·clear hzy
           subst hz'
           go_wp2_with fail
           go_ret
           exact jD (H.out.2.2.1.trans ((H3.out.1.trans (H5.out.mono H3.out.1.size)).mono H.out.2.2.1.size))
          ·have hzb':=aW hz'
           have HZY:=hid (hzy (by omega))
           clear hzy
           go_wp2_with fail
           go_roundg gi
           case measure=>omega
           case rel=>exact ⟨j+1,by go_num,by omega,by omega,sS HZ.out.1 hjt ⟨by omega,HZY.out⟩,H5.out⟩
        ·obtain rfl:j=x.args.length:=by omega
         have HA:=hj_ (pZ hul) (H3.out.1.trans (hbz.mono H3.out.1.size))
         clear hul hbz hyr
         go_wp2_with fail
         go_roundg gj
         case measure=>omega
         case rel=>exact ⟨i+1,by go_num,by omega,by omega,sS HN.out.1 hlt (by rw [HN.out.2.2.2.2.2.2];exact ⟨⟨by omega,by omega,HU.out.1,fun a ha=>(HA.out.1 a ha).1⟩,HZX.out,fun a ha=>(HA.out.1 a ha).2⟩),HA.out.2⟩
    ·obtain rfl:i=r.nodes.length:=by omega
     have HNA:=hid (pZ hal)
     have HB2:=hid (H.out.2.2.1.trans (hbw.mono H.out.2.2.1.size))
     clear hal hbw hxr
     go_wp2_with fail
     go_ret
     exact ⟨⟨true,rfl,fun _=>⟨⟨by omega,fun p hp=>⟨d_ (HP.out p hp) (by decide),(H.out.2.1.prm p hp).2⟩,fun x hx=>Zb (H.out.2.1.nd x hx) (HNA.out x hx).1⟩,fun x hx=>(HNA.out x hx).2⟩⟩,HB2.out⟩
end Go.Proofs.YtgcfjkfipkfijaaGreatDoor
