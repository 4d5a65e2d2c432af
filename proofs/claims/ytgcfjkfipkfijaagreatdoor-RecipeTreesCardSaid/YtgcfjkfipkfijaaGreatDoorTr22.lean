/- Part 22 of the proof of rtrees_card; no conditions. -/
import Derived.Test.YtgcfjkfipkfijaaGreatDoorTr01
import Derived.Test.YtgcfjkfipkfijaaGreatDoorTr15
import Derived.Test.YtgcfjkfipkfijaaGreatDoorTr21
set_option maxRecDepth 100000
set_option maxHeartbeats 8000000
namespace Go.Proofs.YtgcfjkfipkfijaaGreatDoor
open Go Go.RowKit Go.Lib _root_.Go.Proofs.Tryz
def kR (p:tL × Int × Int) (w:World) (r:Ending) (w':World):Prop:=
 ∃pA pc nA nc,r=.returned (.tuple #[.agg #[.string p.1.name,.slice pA p.1.params.length pc,.slice nA p.1.nodes.length nc],.int .i64 p.2.1,.int .i64 p.2.2])∧aO kE (fun k=>k<w.heap.size) w' pA pc p.1.params∧aO yS (fun k=>k<w.heap.size) w' nA nc p.1.nodes∧Below w.heap.size w w'
theorem tX (w k a b c):Same [k] w (((w.setCell ⟨k,0,none⟩ a).setCell ⟨k,1,none⟩ b).setCell ⟨k,2,none⟩ c):=
 (((Same.refl [k] w).setCell (.inl (by simp)) _).setCell (.inl (by simp)) _).setCell (.inl (by simp)) _
theorem vJ {w W K e a pA nA pc nc} (hK:w.heap.size=K) (hb:Below w.heap.size w W) (x y z) (h1:pA=none) (h2:nA=none) (h3:pc=0) (h4:nc=0) :
  kR (Dq,e,a) w (.returned (.tuple #[.agg #[.string ⟨#[]⟩,.slice pA 0 pc,.slice nA 0 nc],.int .i64 e,.int .i64 a])) (((W.setCell ⟨K,0,none⟩ x).setCell ⟨K,1,none⟩ y).setCell ⟨K,2,none⟩ z):=by
 subst h1 h2 h3 h4
 exact ⟨none,0,none,0,rfl,aO.nil _ _ _ _ _,aO.nil _ _ _ _ _,((Same.of_below (M:=[K]) hb).trans (tX W K x y z) (fun x hx=>.inl hx)).below_of (fun k hk=>by simp at hk;omega)⟩
theorem Iv (s w) (hT:cF w) (hs:s.size≤9223372036854775806) (h0:(cI s).2.1≠0):Calls prog 9 #[.string s] w (kR (Dq,(cI s).2.1,(cI s).2.2) w):=by
 obtain ⟨w1,hw1,hb1,hz1⟩:=alo_ w (.cells #[.string ⟨#[]⟩,.slice none 0 0,.slice none 0 0] 26 (0,0))
 have HCUT:=hid (Lv s w1 (hT.below hb1) hs)
 obtain ⟨K,hK⟩:=nm_ w.heap.size
 obtain ⟨⟨tk,ce,ca⟩,hc⟩:∃c,cI s=c:=⟨_,rfl⟩
 rw [hc] at h0 ⊢
 have HC:=hid hc
 have HK:=hid hK
 rw [hK] at hz1
 have H1:=hj_ hb1 hz1
 have HW1:=hid hw1
 have hk1:K<w1.heap.size:=aC hz1
 have h0b:(ce != 0)=true:=B_ h0
 clear hb1 hz1 hw1 hK hc hT h0
 go_enter func9,ntmps9
 go_wp2_with (rw [HW1.out,HK.out];refine HCUT.out.mono ?_;unfold jM;rw [HC.out];rintro r w2 ⟨A,c,rfl,hlc,hrow,hb2⟩;obtain ⟨⟨z0,z1,z2⟩,f0,f1,f2⟩:=bH ((hb2.block _ hk1).trans H1.out.2);have H2:=hid hb2;clear hlc hrow hb2)
 refine L_ (v:=.tuple #[.agg #[.string ⟨#[]⟩,.slice none 0 0,.slice none 0 0],.int .i64 ce,.int .i64 ca]) (by simp [results,results9,go_sem, *]) rfl ?_
 exact vJ HK.out (H1.out.1.trans (H2.out.mono H1.out.1.size)) _ _ _ rfl rfl rfl rfl
theorem Fa (s w) (hT:cF w) (hs:s.size≤9223372036854775806) (h0:(cI s).2.1=0):Calls prog 9 #[.string s] w (kR (iF s) w):=by
 obtain ⟨w1,hw1,hb1,hz1⟩:=alo_ w (.cells #[.string ⟨#[]⟩,.slice none 0 0,.slice none 0 0] 26 (0,0))
 have HCUT:=hid (Lv s w1 (hT.below hb1) hs)
 have T0:=Cj h0
 obtain ⟨ANS,hANS⟩:=nm_ (iF s)
 rw [hANS]
 unfold iF at hANS
 simp only at hANS
 obtain ⟨K,hK⟩:=nm_ w.heap.size
 obtain ⟨⟨l,ce,ca⟩,hc⟩:∃c,cI s=c:=⟨_,rfl⟩
 rw [hc] at h0 T0 hANS
 simp only at h0 T0 hANS
 subst h0
 rw [K_ (by decide)] at hANS
 have T:fZ l:=T0
 clear T0
 obtain ⟨s4,h4⟩:=nm_ (bC l gQ ⟨0,0,1⟩)
 have hin0:iY l ⟨0,0,1⟩:=⟨by show (0:Int)≤0;omega,by show (0:Int)<_;have:=T.fin.1;omega,by show (0:Int)≤1;omega,by show (1:Int)≤27;omega,fun _=>by show (1:Int)≤24;omega⟩
 have hon4:=aQ T.fin gQ (by decide) hin0
 rw [h4] at hon4
 obtain ⟨⟨nm,s5⟩,h5⟩:∃x,bG l [] s4=x:=⟨_,rfl⟩
 have hon5:=hon4.trans (cT T.fin [] hon4.1)
 rw [h5] at hon5
 obtain ⟨⟨ps,s7⟩,h7⟩:∃x,oO l 6 [] s5=x:=⟨_,rfl⟩
 have hon7:=hon5.trans (vF T.fin 6 [] s5 hon5.1)
 simp only [h7] at hon7
 obtain ⟨⟨ks,s8⟩,h8⟩:∃x,aL l (gK l 30) s7=x:=⟨_,rfl⟩
 have hm7:(25:Int) - (30:Nat)≤s7.nodes:=by have:=hon7.2;simp only at this;omega
 have hno:=lN T.fin T.take 30
 have hon8:=dW T.fin hno hon7.1 hm7
 have hcnt:=gV T.fin hno (tR T.fin T.take 30) hon7.1 hm7
 rw [h8] at hon8 hcnt
 simp only at hon8 hcnt
 obtain ⟨s9,h9⟩:=nm_ (if s8.bad=0∧(aE l s8.at_).kind≠0 then bB 11 s8 else s8)
 have hrd:rW l=(nm,ps,ks,s9):=by
  unfold rW
  simp only [h4,h5,h7,h8,h9]
 rw [hrd] at hANS
 simp only at hANS
 have hon9:iY l s9:=by
  rw [←h9]
  split
  ·exact (eQ 11 (by decide) hon8.1).1
  ·exact hon8.1
 have hz9:s9.bad=0→1+oQ ks≤1000:=fun hz=>by
  have h8z:s8.bad=0:=by
   rw [←h9] at hz
   split at hz
   ·exact absurd hz (cK (by decide) _)
   ·exact hz
  have h1:=(hcnt h8z).2
  have h2:=hon8.1.2.2.2.1
  have h3:=hon7.2
  simp only at h3
  omega
 have HS:=hid (⟨h4,h5,h7,hin0,hon4.1,hon5.1,hon7.1,hon8.1,h9,hon9,hz9⟩:_∧_∧_∧_∧_∧_∧_∧_∧_∧_∧_)
 have HBL:=hid (fun (g:Nat) (A:Option Addr) (c:Nat) W (hr:mL l g A c W s7)=>mW T (zT (g:=g) (A:=A) (c:=c) T 30) hno hr hm7)
 rw [h8] at HBL
 have HANS:=hid hANS
 have HC:=hid hc
 have HK:=hid hK
 rw [hK] at hz1
 have H1:=hj_ hb1 hz1
 have HW1:=hid hw1
 have hk1:K<w1.heap.size:=aC hz1
 clear hb1 hz1 hw1 hK hc hT hANS h4 h5 h7 h8 h9 hin0 hon4 hon5 hon7 hon8 hon9 hz9 hcnt hno hm7 hrd
 go_enter func9,ntmps9
 go_wp2_with fail
 rw [HW1.out,HK.out]
 refine HCUT.out.mono ?_
 unfold jM
 rw [HC.out]
 rintro r w2 ⟨A,c,rfl,hlc,hrow,hb2⟩
 simp only at hlc hrow
 go_upto_region 5 with fail
 obtain ⟨g,hg⟩:=nm_ w2.heap.size
 obtain ⟨w3,hw3,hb3,_⟩:=alo_ w2 (.cells #[.slice A l.length c,.int .i64 0,.int .i64 0,.int .i64 1] 51 (0,0))
 have hk3:zJ w3 g A l.length c ⟨0,0,1⟩:=by unfold zJ;rw [←hg,←hw3];exact I_ _ _
 rw [hw3,hg]
 have hrow3:cN.Row [g] w3 A l:=((hrow [] (fun k hk=>by simp at hk)).less (fun k hk=>by simp at hk;exact .inr (by omega))).keep (Same.of_below hb3)
 have hN3:zR l g A c w3 w3 ⟨0,0,1⟩:=⟨⟨hk3,hrow3,hlc,HS.out.2.2.2.1⟩,Same.refl _ _,aC hk3,hrow3⟩
 have HN3:=hid hN3
 have hkg:K<g:=by have:=hb2.size;omega
 have hz3:=(hb3.block K (by have:=hb2.size;omega)).trans ((hb2.block K hk1).trans H1.out.2)
 have HW3:=hid (⟨H1.out.1.trans ((hb2.trans (hb3.mono hb2.size)).mono H1.out.1.size),hz3⟩:Below w.heap.size w w3∧_)
 clear hb3 hk3 hw3 hg hrow3 hN3 hz3 hlc hrow hb2
 go_wp2_with fail
 refine (gL T HN3.out.rdr gQ (by decide)).mono ?_
 rw [HS.out.1]
 rintro e w4 ⟨rfl,hr4,hs4⟩
 have HN4:=hid (HN3.out.step hs4 hr4 HS.out.2.2.2.2.1)
 clear hr4 hs4
 go_wp2_with fail
 refine (kU T HN4.out.rdr (cc:=0) (mJ.nil w4 none)).mono ?_
 rw [HS.out.2.1]
 rintro e w5 ⟨rfl,hr5,hs5⟩
 have HN5:=hid (HN4.out.step hs5 hr5 HS.out.2.2.2.2.2.1)
 clear hr5 hs5
 go_upto_region 7 with fail
 obtain ⟨O,hO⟩:=nm_ w5.heap.size
 obtain ⟨w6,hw6,hb6,_⟩:=alo_ w5 (.cells #[.string nm,.slice none 0 0,.slice none 0 0] 26 (0,0))
 have hk6:w6.heap[O]? = some (.cells #[.string nm,.slice none 0 0,.slice none 0 0] 26 (0,0)):=by rw [←hO,←hw6];exact I_ _ _
 rw [hw6,hO]
 have HN6:=hid (HN5.out.below hb6)
 have hgO:w3.heap.size≤O:=by rw [←hO];exact HN5.out.same.size
 have hg3:=HN3.out.lt
 have HK6:=hid hk6
 have hl6:O<w6.heap.size:=aC hk6
 clear hb6 hw6 hO hk6
 go_wp2_with fail
 refine (Ib T HN6.out.rdr).mono ?_
 rw [HS.out.2.2.1]
 rintro e w7 ⟨pA,pc,rfl,hp7,hr7,hs7⟩
 simp only at hp7
 have HN7:=hid (HN6.out.step hs7 hr7 HS.out.2.2.2.2.2.2.1)
 have hk7:=hs7.heap (k:=O) (by simp;omega) HK6.out
 obtain ⟨⟨k0,k1,k2⟩,f0,f1,f2⟩:=bH hk7
 have hs8:Same [O] w7 (w7.setCell ⟨O,1,none⟩ (.slice pA ps.length pc)):=(Same.refl [O] w7).setCell (.inl (by simp)) _
 have HN8:=hid (HN7.out.put hs8 hgO)
 have HK8:Hid ((w7.setCell ⟨O,1,none⟩ (.slice pA ps.length pc)).heap[O]? = some (.cells #[.string nm,.slice pA ps.length pc,.slice none 0 0] 26 (0,0))):=hid (aZ hk7 1 _)
 have HP8:Hid (aO kE (fun k=>k<w3.heap.size∨k=O) (w7.setCell ⟨O,1,none⟩ (.slice pA ps.length pc)) pA pc ps):=hid ((hp7.keep hs8 (fun k hk=>by simp at hk;omega)).more (fun k hk=>.inl (by have:=HN6.out.same.size;omega)))
 clear hp7 hr7 hs7 hk7 hs8
 go_wp2_with fail
 refine (HBL.out g A c _ HN8.out.rdr).mono ?_
 rintro e w9 ⟨B,b,rfl,hx9,hr9,hs9⟩
 simp only at hx9
 have HN9:=hid (HN8.out.step hs9 hr9 HS.out.2.2.2.2.2.2.2.1)
 have hk9:=hs9.heap (k:=O) (by simp;omega) HK8.out
 have HP9:=hid (HP8.out.keep hs9 (fun k hk=>by simp at hk;exact .inl (by omega)))
 have HX9:Hid (aO rR (fun k=>k<w3.heap.size∨k=O) w9 B b ks):=hid (hx9.more (fun k hk=>.inl (by have:=HN8.out.same.size;have:=aC HK8.out;omega)))
 have HK9:=hid hk9
 clear hx9 hr9 hs9 hk9 k0 k1 k2 f0 f1 f2
 go_upto_region 9 with fail
 obtain ⟨R,hR⟩:=nm_ w9.heap.size
 obtain ⟨w10,hw10,hb10,_⟩:=alo_ w9 (.cells #[.int .i64 0,.slice none 0 0,.slice B ks.length b] 58 (0,0))
 have hk10:w10.heap[R]? = some (.cells #[.int .i64 0,.slice none 0 0,.slice B ks.length b] 58 (0,0)):=by rw [←hR,←hw10];exact I_ _ _
 rw [hw10,hR]
 have HN10:=hid (HN9.out.below hb10)
 have hOR:O<R:=by rw [←hR];exact aC HK9.out
 have HO10:=bl_ hb10 HK9
 have HP10:=hid (HP9.out.below hb10)
 have HX10:=hid (HX9.out.below hb10)
 have HR10:=hid hk10
 clear hb10 hw10 hR hk10
 have HD10:Hid (zR l g A c w10 w10 s8):=hid ⟨HN10.out.rdr,Same.refl _ _,HN10.out.rdr.lt,HN10.out.rdr.row⟩
 obtain ⟨t,ht⟩:=nm_ (aE l s8.at_)
 have HT:=hid ht
 go_cut [43] (fun s43 wx=>s43=.bool (s8.bad == 0 && t.kind != 0)∧zR l g A c w10 wx s8)
 case first=>
  obtain ⟨q,hq⟩:=nm_ (t.kind != 0)
  have HTK:=hid (dE HD10.out.rdr)
  have HOK:=hid (mI HD10.out.rdr)
  have hfd:=fun W=>(jK (.int .i64 t.kind) (.string t.text) (.int .i64 t.n) (.int .i64 t.at_) W).1
  rw [ht] at HTK
  clear ht
  by_cases hb:s8.bad=0
  ·have hbb:(s8.bad == 0)=true:=D_ hb
   rw [hbb] at HOK
   cases q
   all_goals
    go_wp2_with fail
    refine HOK.out.mono ?_
    rintro e w11 ⟨rfl,rfl⟩
    go_wp2_with fail
    refine HTK.out.mono ?_
    rintro e w11 ⟨rfl,hb11⟩
    go_wp2_with fail
    go_meet
    exact ⟨by rw [hbb,hq];rfl,HD10.out.below hb11⟩
  ·have hbb:(s8.bad == 0)=false:=A_ hb
   rw [hbb] at HOK
   go_wp2_with fail
   refine HOK.out.mono ?_
   rintro e w11 ⟨rfl,rfl⟩
   go_wp2_with fail
   go_meet
   exact ⟨by rw [hbb];rfl,HD10.out⟩
 case rest=>
  obtain ⟨rfl,hD⟩:=hcut
  have HD11:=hid hD
  obtain ⟨q,hq⟩:=nm_ (s8.bad == 0 && t.kind != 0)
  rw [hq]
  have h9q:(if q=true then bB 11 s8 else s8)=s9:=by
   rw [←HS.out.2.2.2.2.2.2.2.2.1,←hq,ht]
   by_cases h1:s8.bad=0∧t.kind≠0
   ·rw [M_ h1,M_ (by simpa using h1)]
   ·rw [K_ h1,K_ (by simpa using h1)]
  have H9:=hid h9q
  clear hD hq h9q ht
  go_upto_if 43 with fail
  go_cut [] (fun wx=>zR l g A c w10 wx s9)
  case first=>
   cases q
   ·go_wp2_with fail
    go_meet
    have h:s8=s9:=by simpa using H9.out
    exact h▸HD11.out
   ·go_wp2_with fail
    refine (iZ HD11.out.rdr 11).mono ?_
    rintro e w12 ⟨rfl,hr12,hs12⟩
    go_wp2_with fail
    go_meet
    have h:bB 11 s8=s9:=by simpa using H9.out
    exact HD11.out.step hs12 (h▸hr12) HS.out.2.2.2.2.2.2.2.2.2.1
  case rest=>
   have HD12:=hid hcut
   have HOK:=hid (mI hcut.rdr)
   have hK10:=HN10.out.same.heap (k:=K) (by simp;omega) HW3.out.2
   have hz:=hcut.same.heap (k:=K) (by simp;omega) hK10
   have hO:=hcut.same.heap (k:=O) (by simp;omega) HO10.out
   have hR:=hcut.same.heap (k:=R) (by simp;omega) HR10.out
   have HB:=hl_ hz hO hR hcut.same
   have HX:=hid (HX10.out.keep hcut.same (fun k hk=>by simp at hk;exact .inl (by omega)))
   have HPR:=hid (HP10.out.keep hcut.same (fun k hk=>by simp at hk;exact .inl (by omega)))
   have hKO:K≠O:=by omega
   clear hcut hK10 hz hO hR
   have hOl:=aC HB.out.2.1
   have hRl:=aC HB.out.2.2.1
   have hKl:K<w3.heap.size:=by omega
   have HSZ:=hid (d_ HN10.out.same.size HB.out.2.2.2.size)
   by_cases hb:s9.bad=0
   ·have hbb:(s9.bad == 0)=true:=D_ hb
    have h:=HANS.out
    rw [K_ (by simpa using hb)] at h
    have HA:=hid h
    rw [hbb] at HOK
    have hav:Av rR (fun k=>(k<w3.heap.size∨k=O)∨k∈bJ (.slice none 0 0) []) _ (.row 0 [] ks) [Ef 0 none 0 0 B ks.length b]:=Av.row (us:=[]) (uc:=0) (aO.nil _ _ _ none 0) (HX.out.more (fun k hk=>.inl (hk.elim id (fun h=>by simp [bJ,Value.ownBlock] at h))))
    have HNM:=hid (Ci _ (fun k=>k<w3.heap.size∨k=O) (fun k hk=>by have:=HSZ.out;rcases hk with hk | hk <;> omega) (SizeOf.sizeOf (Pc.row 0 [] ks)+1) (.row 0 [] ks) 58 _ _ none 0 0 [] (by omega) (dF.nil _ _ _) hav le_ (by rw [mY,cP];have:=HS.out.2.2.2.2.2.2.2.2.2.2 hb;omega))
    obtain ⟨⟨r0,r1,r2⟩,_⟩:=bH HB.out.2.2.1
    clear hb hbb h hav
    go_wp2_with fail
    refine HOK.out.mono ?_
    rintro e w12 ⟨rfl,rfl⟩
    go_wp2_with fail
    refine HNM.out.mono ?_
    rintro r w13 ⟨B',b',qs',rfl,hB',hnd,hS',_⟩
    have hO13:=hS'.heap (k:=O) (by simp [bJ,Value.ownBlock]) HB.out.2.1
    have hK13:=hS'.heap (k:=K) (by simp [bJ,Value.ownBlock]) HB.out.1
    have hS0:Same [] _ w13:=hS'.mono (fun x hx=>by simp [bJ,Value.ownBlock] at hx)
    have H13:=hl_ (hB'.out (fun k hk=>by have:=HSZ.out;rcases hk with hk | hk <;> omega)) hnd (HPR.out.keep hS0 (fun k hk=>by simp at hk)) hS0
    obtain ⟨⟨o0,o1,o2⟩,f0,f1,f2⟩:=bH hO13
    obtain ⟨⟨z0,z1,z2⟩,e0,e1,e2⟩:=bH hK13
    have hs14:Same [O] w13 (w13.setCell ⟨O,2,none⟩ (.slice B' qs'.length b')):=(Same.refl [O] w13).setCell (.inl (by simp)) _
    have HS14:=hid hs14
    clear hB' hnd hS' hO13 hK13 hS0 hs14 r0 r1 r2
    go_wp2_with fail
    refine L_ (v:=.tuple #[.agg #[.string nm,.slice pA ps.length pc,.slice B' qs'.length b'],.int .i64 0,.int .i64 0]) (by simp [results,results9,go_sem, *]) rfl ?_
    rw [←HA.out]
    obtain ⟨hnod,hnd,hprm,hS0⟩:=H13.out
    have hsK:=tX (w13.setCell ⟨O,2,none⟩ (.slice B' qs'.length b')) K (.string nm) (.slice pA ps.length pc) (.slice B' qs'.length b')
    have hnl:qs'.map (·.nd)=cX 0 (.row 0 [] ks):=by rw [hnd];rfl
    rw [hnl] at hnod
    have hql:qs'.length=(cX 0 (.row 0 [] ks)).length:=by rw [←hnl,U_]
    have hw0:=H1.out.1.size
    have hw3:=HW3.out.1.size
    refine ⟨pA,pc,B',b',by rw [hql],((hprm.keep HS14.out (fun k hk=>by simp at hk;exact .inr hk)).keep hsK (fun k hk=>by simp at hk;exact .inl (by omega))).more (fun k hk=>.inl (.inl (by omega))),((hnod.keep HS14.out (fun k hk=>by simp at hk;exact .inr hk)).keep hsK (fun k hk=>by simp at hk;exact .inl (by omega))).more (fun k hk=>.inl (.inl (by omega))),?_⟩
    have hKw:=HK.out
    exact (((((Same.of_below (M:=[g,O,K]) HW3.out.1).trans HN10.out.same (fun x hx=>by simp at hx;simp [hx])).trans HB.out.2.2.2 (fun x hx=>by simp at hx;simp [hx])).trans hS0 (fun x hx=>by simp at hx)).trans HS14.out (fun x hx=>by simp at hx;simp [hx])).trans hsK (fun x hx=>by simp at hx;simp [hx]) |>.below_of (fun k hk=>by simp at hk;omega)
   ·have hbb:(s9.bad == 0)=false:=A_ hb
    have h:=HANS.out
    rw [M_ (by simpa using hb)] at h
    have HA:=hid h
    rw [hbb] at HOK
    obtain ⟨t9,ht9⟩:=nm_ (aE l s9.at_)
    have HT9:=hid ht9
    have HTK:=hid (fun W (hbW:Below _ _ W)=>dE (HD12.out.rdr.step hbW))
    rw [ht9] at HTK
    have hfd:=fun W=>(jK (.int .i64 t9.kind) (.string t9.text) (.int .i64 t9.n) (.int .i64 t9.at_) W).2.2
    obtain ⟨⟨z0,z1,z2⟩,e0,e1,e2⟩:=bH HB.out.1
    obtain ⟨⟨c0,c1,c2,c3⟩,f0,f1,f2,f3⟩:=aK HD12.out.rdr.rd
    have hgl:=HD12.out.rdr.lt
    have hKl2:=aC HB.out.1
    clear hb hbb h ht9
    go_wp2_with fail
    refine HOK.out.mono ?_
    rintro e w12 ⟨rfl,rfl⟩
    go_wp2_with fail
    go_region_with (go_at_call 29;refine (HTK.out _ ?_).mono ?_;(first | exact J_ _ _ | exact (J_ _ _).drew);rintro r w13 ⟨rfl,hb13⟩;have y0:=(hb13.cell (p:=⟨K,0,none⟩) hKl2).trans z0;have y1:=(hb13.cell (p:=⟨K,1,none⟩) hKl2).trans z1;have y2:=(hb13.cell (p:=⟨K,2,none⟩) hKl2).trans z2;have g0:=(hb13.frozen (p:=⟨K,0,none⟩) hKl2).trans e0;have g1:=(hb13.frozen (p:=⟨K,1,none⟩) hKl2).trans e1;have g2:=(hb13.frozen (p:=⟨K,2,none⟩) hKl2).trans e2;have x2:=(hb13.cell (p:=⟨g,2,none⟩) hgl).trans c2;have hk13:K<w13.heap.size:=Y_ hKl2 hb13.size;have hg13:g<w13.heap.size:=Y_ hgl hb13.size;have H13:=hid hb13;clear hb13)
    all_goals
     go_wp2
     refine L_ (v:=.tuple #[.agg #[.string ⟨#[]⟩,.slice none 0 0,.slice none 0 0],.int .i64 s9.bad,.int .i64 t9.at_]) (by simp [results,results9,go_sem, *]) rfl ?_
     rw [←HA.out,HT9.out]
     have hw3:=HW3.out.1.size
     have hKw:=HK.out
     have hbx:Below w.heap.size w _:=((((Same.of_below (M:=[g]) HW3.out.1).trans HN10.out.same (fun x hx=>by simp at hx;simp [hx])).trans HB.out.2.2.2 (fun x hx=>by simp at hx;simp [hx]))).below_of (fun k hk=>by simp at hk;omega)
     have hb14:Below w.heap.size w w13:=by first | exact hbx.trans (H13.out.mono hbx.size) | exact hbx.drew.trans (H13.out.mono hbx.size)
     exact vJ HK.out hb14 _ _ _ rfl rfl rfl rfl
theorem xD (s w) (hT:cF w) (hs:s.size≤9223372036854775806):Calls prog 9 #[.string s] w (kR (iF s) w):=by
 by_cases h:(cI s).2.1=0
 ·exact Fa s w hT hs h
 ·have e:iF s=(Dq,(cI s).2.1,(cI s).2.2):=by unfold iF;rw [M_ h]
  rw [e]
  exact Iv s w hT hs h
end Go.Proofs.YtgcfjkfipkfijaaGreatDoor
