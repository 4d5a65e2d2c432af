/- Part 53 of the proof of rtrees_card; no conditions. -/
import Derived.Test.YtgcfjkfipkfijaaGreatDoorTr01
import Derived.Test.YtgcfjkfipkfijaaGreatDoorTr32
import Derived.Test.YtgcfjkfipkfijaaGreatDoorTr35
import Derived.Test.YtgcfjkfipkfijaaGreatDoorTr38
import Derived.Test.YtgcfjkfipkfijaaGreatDoorTr52
set_option maxRecDepth 100000
set_option maxHeartbeats 8000000
namespace Go.Proofs.YtgcfjkfipkfijaaGreatDoor
open Go Go.RowKit Go.Lib _root_.Go.Proofs.Tryz
open Classical in
noncomputable def Qm (r:tL):Bool:=(iS r).2 && ((iF (str (iS r).1)).2.1 == 0 && decide ((iF (str (iS r).1)).1=r))
theorem Vf (r):Qm r=true↔(iS r).2=true∧(iF (str (iS r).1)).2.1=0∧(iF (str (iS r).1)).1=r:=by
 unfold Qm
 simp only [a_,beq_iff_eq,decide_eq_true_eq]
theorem Bm {r} (h:nW r=true):∀x,x∈r.nodes→x.units.length≤5:=by
 obtain ⟨_,h2,h3⟩:=(lP r).1 h
 have:=uT h2
 rwa [h3] at this
theorem tF (r):Qm r=nW r:=by
 rw [Bool.eq_iff_iff,Vf,lP]
 by_cases hu:∀x,x∈r.nodes→x.units.length≤6
 ·obtain ⟨h1,h2⟩:=Ag hu
  rw [h1]
  exact ⟨fun ⟨a,b,c⟩=>⟨a,by rw [←h2 a];exact b,by rw [←h2 a];exact c⟩,fun ⟨a,b,c⟩=>⟨a,by rw [h2 a];exact b,by rw [h2 a];exact c⟩⟩
 ·refine ⟨fun ⟨_,b,c⟩=>absurd ?_ hu,fun ⟨_,b,c⟩=>absurd ?_ hu⟩
  all_goals
   have:=uT b
   rw [c] at this
   exact fun x hx=>d_ (this x hx) (by decide)
theorem Vg {r} (h:nW r=true):(iS r).1=(fF r).1:=
 (Ag (fun x hx=>d_ (Bm h x hx) (by decide))).2 ((lP r).1 h).1
theorem Qn {r} (h:nW r=true):∀x,x∈r.nodes→fG 2 x=x.units:=by
 obtain ⟨_,h2,h3⟩:=(lP r).1 h
 have hs:=Jv h2
 rw [h3] at hs
 intro x hx
 obtain ⟨i,hi,rfl⟩:=List.getElem_of_mem hx
 have hu:=(hs.node i hi).unit
 unfold fG
 by_cases hk:r.nodes[i].kind=2
 ·rw [M_ hk,K_ (by omega)]
 ·rw [K_ hk]
  exact (Decidable.byContradiction fun hc=>hk (hu.2 (fun he=>hc he.symm)))
theorem Qo {r} (h:rI r):(iS r).1.length≤1000000000000:=by
 unfold iS
 split
 ·exact h_ _
 ·rename_i hc
  have h1:=Ft h.prm (by omega) r.params.length
  rw [List.take_length] at h1
  have h2:=(iL h.nd (f:=24) (k:=0) (ind:=[32,32]) (L:=r.nodes.length) (by decide) (by omega)).1
  have h3:=Ah (bL r.nodes (eK r.nodes 24) 0 [32,32] r.nodes.length).2
  have h4:=h.name
  have h5:(gN r).length=8+r.name.size:=by unfold gN;rw [O_,O_,cA];simp;omega
  simp only [O_,P_,b_]
  omega
section
variable {P : Nat → Prop} {r : tL} {pA nA : Option Addr} {pc nc : Nat} {w : World}
open Classical in
theorem qE (h:kI P w r pA pc nA nc) (hN:rI r) (hX:∀x,x∈r.nodes→Jn x):Calls prog 21 #[iG r pA pc nA nc] w fun e w'=>e=.returned (.bool (Qm r))∧Below w.heap.size w w':=by
 have HH:=hk_ h hN hX
 have htl:=Qo hN
 obtain ⟨ANS,hANS⟩:=nm_ (Qm r)
 rw [hANS]
 unfold Qm at hANS
 obtain ⟨TX,hTX⟩:=nm_ (iS r)
 have HTX:=hid hTX
 rw [hTX] at hANS htl
 obtain ⟨tx,tb⟩:=TX
 simp only at hANS htl
 have hts:(str tx).size≤9223372036854775806:=by rw [bW];omega
 obtain ⟨⟨x,e0,a0⟩,hp⟩:∃p,iF (str tx)=p:=⟨_,rfl⟩
 have HPX:Hid (∀W,Calls prog 10 #[.string (str tx)] W (kR (x,e0,a0) W)):=hid (fun W=>by
  have:=Ko (str tx) W hts
  rwa [hp] at this)
 rw [hp] at hANS
 simp only at hANS
 have HANS:=hid hANS
 clear h hN hX hTX hp htl hts hANS
 simp only [iG]
 go_enter func21,ntmps21
 go_upto_region 1 with fail
 obtain ⟨w2,hw2⟩:=nm_ (w.alloc (.cells #[.string r.name,.slice pA r.params.length pc,.slice nA r.nodes.length nc] 26))
 obtain ⟨K,hKK⟩:=nm_ w.heap.size
 have HX:Hid (w2.heap[K]? = some (.cells #[.string r.name,.slice pA r.params.length pc,.slice nA r.nodes.length nc] 26 (0,0))∧Below w.heap.size w w2):=hid (by
  rw [←hw2,←hKK];exact ⟨I_ _ _,(J_ _ _).alloc le_ _⟩)
 rw [hw2,hKK]
 clear hw2
 have hkl:=aC HX.out.1
 obtain ⟨⟨b0,b1,b2⟩,_⟩:=bH HX.out.1
 go_wp2_with fail
 refine (xU r pA pc nA nc w2 (HH.out.1.below HX.out.2) HH.out.2.1 HH.out.2.2).mono ?_
 rw [HTX.out]
 rintro e w3 ⟨rfl,hb3⟩
 have H3:=hj_ (HX.out.2.trans (hb3.mono HX.out.2.size)) ((hb3.block K hkl).trans HX.out.1)
 clear hb3 b0 b1 b2 hkl
 cases tb with
 | false=>
  go_wp2_with fail
  go_ret
  exact ⟨by rw [←HANS.out];rfl,hKK▸H3.out.1⟩
 | true=>
  have hkl:=aC H3.out.2
  go_wp2_with fail
  refine (HPX.out w3).mono ?_
  rintro e w4 ⟨pA',pc',nA',nc',rfl,hpp,hnn,hb4⟩
  simp only at hpp hnn
  go_upto_region 5 with fail
  obtain ⟨w5,hw5,hb5,_⟩:=alo_ w4 (.cells #[.string x.name,.slice pA' x.params.length pc',.slice nA' x.nodes.length nc'] 26)
  obtain ⟨K',hK'⟩:=nm_ w4.heap.size
  have hy5:w5.heap[K']? = some (.cells #[.string x.name,.slice pA' x.params.length pc',.slice nA' x.nodes.length nc'] 26 (0,0)):=by rw [←hK',←hw5];exact I_ _ _
  have hb45:=hb4.trans (hb5.mono hb4.size)
  have hx5:=(hb45.block K hkl).trans H3.out.2
  have hbw5:=H3.out.1.trans (hb45.mono H3.out.1.size)
  have HS:=hid (Pt x r pA' pc' nA' nc' pA pc nA nc w5 (kI.below ⟨hpp,hnn⟩ hb5) (HH.out.1.below hbw5))
  have H5:=hid hbw5
  rw [hw5,hK']
  obtain ⟨⟨x0,x1,x2⟩,_⟩:=bH hx5
  obtain ⟨⟨y0,y1,y2⟩,_⟩:=bH hy5
  have hlx:=aC hx5
  have hly:=aC hy5
  clear hpp hnn hb4 hb5 hw5 hK' hy5 hb45 hx5 hbw5 hkl
  by_cases he:e0=0
  ·subst he
   obtain ⟨q,hq⟩:=nm_ (decide (x=r))
   rw [hq] at HS
   have HQ:=hid hq
   clear hq
   go_wp2_with fail
   refine HS.out.mono ?_
   rintro e w6 ⟨rfl,hb6⟩
   have H6:=tm_ H5 hb6
   clear hb6 x0 x1 x2 y0 y1 y2 hlx hly
   go_wp2_with fail
   go_ret
   exact ⟨by rw [←HANS.out,HQ.out];rfl,hKK▸H6.out⟩
  ·have t1:=aW he
   go_wp2_with fail
   go_ret
   exact ⟨by rw [←HANS.out,t1];rfl,hKK▸H5.out⟩
theorem He (h:kI P w r pA pc nA nc) (hN:rI r) (hX:∀x,x∈r.nodes→Jn x):Calls prog 22 #[iG r pA pc nA nc] w fun e w'=>e=.returned (.string (nX r))∧Below w.heap.size w w':=by
 have HH:=hk_ h hN hX
 obtain ⟨q,hq⟩:=nm_ (nW r)
 have HQ:=hid hq
 have hpr:nX r=if q=true then str (iS r).1 else ⟨#[]⟩:=by
  unfold nX
  rw [hq]
  cases q with
  | false=>rfl
  | true=>rw [M_ rfl,M_ rfl,Vg hq]
 rw [hpr]
 clear h hN hX hq hpr
 simp only [iG]
 go_enter func22,ntmps22
 go_upto_region 1 with fail
 obtain ⟨w2,hw2⟩:=nm_ (w.alloc (.cells #[.string r.name,.slice pA r.params.length pc,.slice nA r.nodes.length nc] 26))
 obtain ⟨K,hKK⟩:=nm_ w.heap.size
 have HX:Hid (w2.heap[K]? = some (.cells #[.string r.name,.slice pA r.params.length pc,.slice nA r.nodes.length nc] 26 (0,0))∧Below w.heap.size w w2):=hid (by
  rw [←hw2,←hKK];exact ⟨I_ _ _,(J_ _ _).alloc le_ _⟩)
 rw [hw2,hKK]
 clear hw2
 have hkl:=aC HX.out.1
 obtain ⟨⟨b0,b1,b2⟩,_⟩:=bH HX.out.1
 go_wp2_with fail
 refine (qE (HH.out.1.below HX.out.2) HH.out.2.1 HH.out.2.2).mono ?_
 rw [tF,HQ.out]
 rintro e w3 ⟨rfl,hb3⟩
 have H3:=hj_ (HX.out.2.trans (hb3.mono HX.out.2.size)) ((hb3.block K hkl).trans HX.out.1)
 clear hb3 b0 b1 b2 hkl
 cases q with
 | false=>
  go_wp2_with fail
  go_ret
  exact ⟨rfl,hKK▸H3.out.1⟩
 | true=>
  have hkl:=aC H3.out.2
  obtain ⟨⟨b0,b1,b2⟩,_⟩:=bH H3.out.2
  go_wp2_with fail
  refine (xU r pA pc nA nc w3 (HH.out.1.below H3.out.1) HH.out.2.1 HH.out.2.2).mono ?_
  rintro e w4 ⟨rfl,hb4⟩
  have H4:=hid (H3.out.1.trans (hb4.mono H3.out.1.size))
  clear hb4 b0 b1 b2 hkl
  go_wp2_with fail
  go_ret
  exact ⟨rfl,hKK▸H4.out⟩
end
theorem Bn {w0 w B b os} (h:De w0 w B b os) (hl:os.length≤100000) (s) :
  Calls prog 46 #[.slice B os.length b,.string s] w fun e w'=>∃B' b',e=.returned (.slice B' (kG os s).length b')∧De w0 w' B' b' (kG os s):=by
 have HP:=hid (rN h.row.strs b s)
 have H:=hid h
 clear h
 go_enter func46,ntmps46
 go_wp2_with fail
 refine HP.out.mono ?_
 rintro e w1 ⟨z,rfl,hz,hb1⟩
 have H1:=hid (H.out.step hb1)
 clear hb1
 by_cases hz0:0≤z
 ·have he:kG os s=os:=by unfold kG;rw [M_ (hz.1 hz0)]
  have HE:=hid he
  clear hz he
  go_wp2_with fail
  go_ret
  rw [HE.out]
  exact ⟨B,b,rfl,H1.out⟩
 ·have he:kG os s=os++[s]:=by unfold kG;rw [K_ (fun hc=>hz0 (hz.2 hc))]
  have HE:=hid he
  clear hz he
  go_wp2_with (at_builtin;refine Hid.out ?_)
  refine hid ?_
  refine cL (by rfl) _ _ _ (by rfl) (.string ⟨#[]⟩) 16 underlying37 gM (by rfl) (by decide) (by rfl) H1.out.row s #[.string s] _ (by rfl) (by rfl) (by simp [Value.oneCell']) (Av.str _ _ _) (by unfold maxLen;omega) (by omega) H1.out.below.size ?_
  intro g2 cap2 w6 hG hS hg2
  have H6:=hid (H1.out.push hG hS)
  clear hG hS hg2
  go_wp2_with fail
  go_ret
  rw [HE.out]
  exact ⟨some ⟨g2,0,none⟩,cap2,by simp,H6.out⟩
section
variable {P : Nat → Prop} {r : tL} {pA nA : Option Addr} {pc nc : Nat} {w : World}
theorem Vh (h:nW r=true):r.nodes.length≤24:=by
 have h1:=((lP r).1 h).1
 unfold fF at h1
 split at h1
 ·exact absurd h1 (by decide)
 ·omega
theorem Hf (h:kI P w r pA pc nA nc) (hN:rI r) (hX:∀x,x∈r.nodes→Jn x):Calls prog 18 #[iG r pA pc nA nc] w (eS (gW r 3) w):=by
 have HH:=hk_ h hN hX
 obtain ⟨q,hq⟩:=nm_ (nW r)
 obtain ⟨ANS,hANS⟩:=nm_ (gW r 3)
 rw [hANS]
 unfold gW at hANS
 rw [hq] at hANS
 have h24:q=true→r.nodes.length≤24:=fun hq'=>Vh (hq.trans hq')
 have HQ:=hj_ hq hANS
 have hnm:=(h.nds.2 [] (by simp)).1
 have hnc:=h.nds.1
 clear h hN hX hq hANS
 simp only [iG]
 go_enter func18,ntmps18
 go_upto_region 1 with fail
 obtain ⟨w2,hw2⟩:=nm_ (w.alloc (.cells #[.string r.name,.slice pA r.params.length pc,.slice nA r.nodes.length nc] 26))
 obtain ⟨K,hKK⟩:=nm_ w.heap.size
 have HX:Hid (w2.heap[K]? = some (.cells #[.string r.name,.slice pA r.params.length pc,.slice nA r.nodes.length nc] 26 (0,0))∧Below w.heap.size w w2):=hid (by
  rw [←hw2,←hKK];exact ⟨I_ _ _,(J_ _ _).alloc le_ _⟩)
 rw [hw2,hKK]
 clear hw2
 have hkl:=aC HX.out.1
 obtain ⟨⟨b0,b1,b2⟩,_⟩:=bH HX.out.1
 go_wp2_with fail
 refine (qE (HH.out.1.below HX.out.2) HH.out.2.1 HH.out.2.2).mono ?_
 rw [tF,HQ.out.1]
 rintro e w3 ⟨rfl,hb3⟩
 have H3:=hj_ (HX.out.2.trans (hb3.mono HX.out.2.size)) ((hb3.block K hkl).trans HX.out.1)
 clear hb3 b0 b1 b2 hkl
 cases q with
 | false=>
  go_wp2_with fail
  go_ret
  rw [←HQ.out.2]
  exact ⟨none,0,rfl,aO.nil _ _ _ _ _,hKK▸H3.out.1⟩
 | true=>
  have h24:=h24 rfl
  have hans:(r.nodes.flatMap (fG 3)).foldl kG []=ANS:=by rw [←HQ.out.2,M_ rfl]
  have HANS:=hid hans
  clear hans
  go_wp2_with fail
  go_loopg [4,5] (r.nodes.length+1) (fun q s4 s5 wr=>∃(i:Nat) (B:Option Addr) (b:Nat) (os:List ByteArray),s4=.slice B os.length b∧s5=.int .i64 (i:Nat)∧i≤r.nodes.length∧r.nodes.length - i<q∧De w3 wr B b os∧os=((r.nodes.take i).flatMap (fG 3)).foldl kG []∧os.length≤i)
  case atStart=>exact ⟨0,none,0,[],rfl,rfl,h_ _,by omega,⟨aR.nil _ _ _ _ _,J_ _ _⟩,by simp,h_ _⟩
  case round=>
   obtain ⟨i,B,b,os,rfl,rfl,hin,hiq,hW,hos,hol⟩:=hrel
   obtain ⟨gk,rfl⟩:=pk_ gk 1 (by omega)
   have hbx:=bp_ hW.below H3.out.2
   have hkl:=aC hbx
   obtain ⟨⟨b0,b1,b2⟩,_⟩:=bH hbx
   have hi0:(0:Int)≤i:=by omega
   have HW:=hj_ hW hos
   by_cases hlt:i<r.nodes.length
   ·have hiz:(i:Int)<r.nodes.length:=by omega
    have hR:=(HH.out.1.below (H3.out.1.trans (hW.below.mono H3.out.1.size))).nds
    obtain ⟨ad,rfl⟩:=fN hR i hlt
    obtain ⟨_,_,_,_,_,_,_,_,⟨c0,_,_,c3,_⟩,_,_,_,_,hnl⟩:=eG hR i hlt
    obtain ⟨x,hx⟩:=nm_ (r.nodes[i])
    rw [hx] at c0 c3
    have htk:(r.nodes.take (i+1)).flatMap (fG 3)=(r.nodes.take i).flatMap (fG 3)++fG 3 x:=by rw [Z_ hlt,hx,q_];simp
    have HT:=hid htk
    clear hW hos hR hbx hx htk
    by_cases hk3:x.kind=3
    ·rw [hk3] at c0
     have hn3:fG 3 x=[x.name]:=by unfold fG;rw [M_ hk3,M_ hk3]
     have HN3:=hid hn3
     have HAD:=hid (Bn HW.out.1 (by omega) x.name)
     have hal:=Fb os x.name
     clear hk3 hn3
     go_wp2_with fail
     refine HAD.out.mono ?_
     rintro e w5 ⟨B5,b5,rfl,h5⟩
     have H5:=hid h5
     clear h5 b0 b1 b2 c0 c3 hkl hnl
     go_wp2_with fail
     go_roundg gk
     case measure=>omega
     case rel=>exact ⟨i+1,B5,b5,kG os x.name,rfl,by go_num,by omega,by omega,H5.out,by rw [HT.out,HN3.out,List.foldl_append,←HW.out.2];rfl,by omega⟩
    ·have hkb:=aW hk3
     have hn3:fG 3 x=[]:=by unfold fG;rw [K_ hk3]
     have HN3:=hid hn3
     clear hk3 hn3
     go_wp2_with fail
     go_roundg gk
     case measure=>omega
     case rel=>exact ⟨i+1,B,b,os,rfl,by go_num,by omega,by omega,HW.out.1,by rw [HT.out,HN3.out,List.append_nil];exact HW.out.2,by omega⟩
   ·obtain rfl:i=r.nodes.length:=by omega
    have hlt':¬((r.nodes.length:Int)<r.nodes.length):=by omega
    have hfin:os=ANS:=by rw [←HANS.out,HW.out.2,List.take_length]
    have HFN:=hid hfin
    clear hW hos hbx hfin hlt
    go_wp2_with fail
    go_ret
    rw [←HFN.out]
    exact ⟨B,b,rfl,HW.out.1.post.more (fun k hk=>.inl (by have:=H3.out.1.size;omega)),hKK▸(H3.out.1.trans (HW.out.1.below.mono H3.out.1.size))⟩
theorem Kq (h:kI P w r pA pc nA nc) (hN:rI r) (hX:∀x,x∈r.nodes→Jn x):Calls prog 20 #[iG r pA pc nA nc] w (eS (gW r 2) w):=by
 have HH:=hk_ h hN hX
 obtain ⟨q,hq⟩:=nm_ (nW r)
 obtain ⟨ANS,hANS⟩:=nm_ (gW r 2)
 rw [hANS]
 unfold gW at hANS
 rw [hq] at hANS
 have h24:q=true→r.nodes.length≤24:=fun hq'=>Vh (hq.trans hq')
 have hu5:q=true→(∀x,x∈r.nodes→x.units.length≤5)∧∀x,x∈r.nodes→fG 2 x=x.units:=fun hq'=>⟨Bm (hq.trans hq'),Qn (hq.trans hq')⟩
 have HQ:=hk_ hq hANS hu5
 have hnm:=(h.nds.2 [] (by simp)).1
 have hnc:=h.nds.1
 clear h hN hX hq hANS hu5
 simp only [iG]
 go_enter func20,ntmps20
 go_upto_region 1 with fail
 obtain ⟨w2,hw2⟩:=nm_ (w.alloc (.cells #[.string r.name,.slice pA r.params.length pc,.slice nA r.nodes.length nc] 26))
 obtain ⟨K,hKK⟩:=nm_ w.heap.size
 have HX:Hid (w2.heap[K]? = some (.cells #[.string r.name,.slice pA r.params.length pc,.slice nA r.nodes.length nc] 26 (0,0))∧Below w.heap.size w w2):=hid (by
  rw [←hw2,←hKK];exact ⟨I_ _ _,(J_ _ _).alloc le_ _⟩)
 rw [hw2,hKK]
 clear hw2
 have hkl:=aC HX.out.1
 obtain ⟨⟨b0,b1,b2⟩,_⟩:=bH HX.out.1
 go_wp2_with fail
 refine (qE (HH.out.1.below HX.out.2) HH.out.2.1 HH.out.2.2).mono ?_
 rw [tF,HQ.out.1]
 rintro e w3 ⟨rfl,hb3⟩
 have H3:=hj_ (HX.out.2.trans (hb3.mono HX.out.2.size)) ((hb3.block K hkl).trans HX.out.1)
 clear hb3 b0 b1 b2 hkl
 cases q with
 | false=>
  go_wp2_with fail
  go_ret
  rw [←HQ.out.2.1]
  exact ⟨none,0,rfl,aO.nil _ _ _ _ _,hKK▸H3.out.1⟩
 | true=>
  have h24:=h24 rfl
  have HU5:=hid (HQ.out.2.2 rfl)
  have hans:(r.nodes.flatMap (fG 2)).foldl kG []=ANS:=by rw [←HQ.out.2.1,M_ rfl]
  have HANS:=hid hans
  clear hans
  go_wp2_with fail
  go_loopg [4,5] (r.nodes.length+1) (fun q s4 s5 wr=>∃(i:Nat) (B:Option Addr) (b:Nat) (os:List ByteArray),s4=.slice B os.length b∧s5=.int .i64 (i:Nat)∧i≤r.nodes.length∧r.nodes.length - i<q∧De w3 wr B b os∧os=((r.nodes.take i).flatMap (fG 2)).foldl kG []∧os.length≤5*i)
  case atStart=>exact ⟨0,none,0,[],rfl,rfl,h_ _,by omega,⟨aR.nil _ _ _ _ _,J_ _ _⟩,by simp,h_ _⟩
  case round=>
   obtain ⟨i,B,b,os,rfl,rfl,hin,hiq,hW,hos,hol⟩:=hrel
   obtain ⟨gk,rfl⟩:=pk_ gk 1 (by omega)
   have hbx:=bp_ hW.below H3.out.2
   have hkl:=aC hbx
   obtain ⟨⟨b0,b1,b2⟩,_⟩:=bH hbx
   have hi0:(0:Int)≤i:=by omega
   have HW:=hj_ hW hos
   by_cases hlt:i<r.nodes.length
   ·have hiz:(i:Int)<r.nodes.length:=by omega
    obtain ⟨x,hx⟩:=nm_ (r.nodes[i])
    have hxm:x∈r.nodes:=hx▸g_ hlt
    have hx5:=HU5.out.1 x hxm
    have htk:(r.nodes.take (i+1)).flatMap (fG 2)=(r.nodes.take i).flatMap (fG 2)++x.units:=by rw [Z_ hlt,hx,q_,←HU5.out.2 x hxm];simp
    obtain ⟨un,hun⟩:=nm_ x.units.length
    rw [hun] at hx5
    have HT:=hk_ htk hx hun
    clear hW hos hbx hx htk hun
    go_wp2_with fail
    clear b0 b1 b2 hkl
    go_loopg [4,6] (un+1) (fun q s4 s6 wz=>∃(k:Nat) (V:Option Addr) (v:Nat) (ps:List ByteArray),s4=.slice V ps.length v∧s6=.int .i64 (k:Nat)∧k≤un∧un - k<q∧De w3 wz V v ps∧ps=(x.units.take k).foldl kG os∧ps.length≤5*i+k)
    case atStart=>exact ⟨0,B,b,os,rfl,rfl,h_ _,by omega,HW.out.1,by simp,by omega⟩
    case round=>
     obtain ⟨k,V,v,ps,rfl,rfl,hkn,hkq,hW2,hps,hpl⟩:=hrel
     obtain ⟨gj,rfl⟩:=pk_ gk 1 (by omega)
     have hbx:=bp_ hW2.below H3.out.2
     have hkl:=aC hbx
     obtain ⟨⟨b0,b1,b2⟩,_⟩:=bH hbx
     have hk0:(0:Int)≤k:=by omega
     have hR:=(HH.out.1.below (H3.out.1.trans (hW2.below.mono H3.out.1.size))).nds
     obtain ⟨ad,rfl⟩:=fN hR i hlt
     obtain ⟨_,_,uA,uc,_,_,_,_,⟨_,_,c2,_⟩,_,hur,_,_,hnl⟩:=eG hR i hlt
     rw [HT.out.2.1] at c2 hur
     have huc:=hur.1
     rw [HT.out.2.2] at c2 huc
     have HW2:=hj_ hW2 hps
     by_cases hkt:k<un
     ·have hkz:(k:Int)<un:=by omega
      obtain ⟨ud,rfl,d0,hdl⟩:=iD hur k (by rw [HT.out.2.2];exact hkt)
      have hkt':k<x.units.length:=by rw [HT.out.2.2];exact hkt
      obtain ⟨u,hu⟩:=nm_ (x.units[k])
      rw [hu] at d0
      have htk:(x.units.take (k+1)).foldl kG os=kG ((x.units.take k).foldl kG os) u:=by rw [Z_ hkt',hu,List.foldl_append];rfl
      have HTK:=hid htk
      have HAD:=hid (Bn HW2.out.1 (by omega) u)
      have hal:=Fb ps u
      clear hW2 hps hR hbx hur hu htk hkt'
      go_wp2_with fail
      refine HAD.out.mono ?_
      rintro e w5 ⟨B5,b5,rfl,h5⟩
      have H5:=hid h5
      clear h5 b0 b1 b2 c2 d0 hdl hkl hnl
      go_wp2_with fail
      go_roundg gj
      case measure=>omega
      case rel=>exact ⟨k+1,B5,b5,kG ps u,rfl,by go_num,by omega,by omega,H5.out,by rw [HTK.out,←HW2.out.2],by omega⟩
     ·obtain rfl:k=un:=by omega
      have hlt':¬((k:Int)<k):=by omega
      have hfin:ps=((r.nodes.take (i+1)).flatMap (fG 2)).foldl kG []:=by rw [HT.out.1,List.foldl_append,←HW.out.2,HW2.out.2,List.take_of_length_le (by rw [HT.out.2.2];exact H_ _)]
      have HFN:=hid hfin
      clear hW2 hps hR hbx hur hfin
      go_wp2_with fail
      go_roundg gk
      case measure=>omega
      case rel=>exact ⟨i+1,V,v,ps,rfl,by go_num,by omega,by omega,HW2.out.1,HFN.out,by omega⟩
   ·obtain rfl:i=r.nodes.length:=by omega
    have hlt':¬((r.nodes.length:Int)<r.nodes.length):=by omega
    have hfin:os=ANS:=by rw [←HANS.out,HW.out.2,List.take_length]
    have HFN:=hid hfin
    clear hW hos hbx hfin hlt
    go_wp2_with fail
    go_ret
    rw [←HFN.out]
    exact ⟨B,b,rfl,HW.out.1.post.more (fun k hk=>.inl (by have:=H3.out.1.size;omega)),hKK▸(H3.out.1.trans (HW.out.1.below.mono H3.out.1.size))⟩
end
end Go.Proofs.YtgcfjkfipkfijaaGreatDoor
