/- Part 35 of the proof of rtrees_card; no conditions. -/
import Derived.Test.YtgcfjkfipkfijaaGreatDoorTr01
import Derived.Test.YtgcfjkfipkfijaaGreatDoorTr34
import Derived.Test.YtgcfjkfipkfijaaGreatDoorTr12
import Derived.Test.YtgcfjkfipkfijaaGreatDoorTr15
set_option maxRecDepth 100000
set_option maxHeartbeats 8000000
namespace Go.Proofs.YtgcfjkfipkfijaaGreatDoor
open Go Go.RowKit Go.Lib _root_.Go.Proofs.Tryz
theorem Ft {ps:List oF} (h:∀p,p∈ps→p.name.size≤65536∧oT p.n) (h4:ps.length≤4):∀i,(dA (ps.take i)).length≤264000:=by
 have key:∀qs:List oF,(∀p,p∈qs→p.name.size≤65536∧oT p.n)→(dA qs).length≤qs.length*66000:=by
  intro qs
  induction qs with
  | nil=>intro _;simp [dA]
  | cons q qs ih=>
   intro h
   have h1:=Ew (h q (by simp))
   have h2:=ih (fun p hp=>h p (by simp [hp]))
   have e:dA (q::qs)=Es q++dA qs:=rfl
   rw [e,O_,P_,Nat.succ_mul]
   omega
 intro i
 have h1:=key (ps.take i) (fun p hp=>h p (List.mem_of_mem_take hp))
 have h2:(ps.take i).length≤4:=d_ (List.length_take_le' _ _) h4
 have h3:=Nat.mul_le_mul_right 66000 h2
 omega
theorem xU {P} (r pA pc nA nc w) (h:kI P w r pA pc nA nc) (hN:rI r) (hX:∀x,x∈r.nodes→Jn x) :
  Calls prog 15 #[iG r pA pc nA nc] w fun e w'=>e=.returned (.tuple #[.string (str (iS r).1),.bool (iS r).2])∧Below w.heap.size w w':=by
 have hpc:=h.prms.1
 have hpm:=(h.prms.2 [] (by simp)).1
 have hnc:=h.nds.1
 have hnm:=(h.nds.2 [] (by simp)).1
 have HPX:=hid (sX hN.nd h.nds (Ap hN.nd hX h.nds 24))
 have HPL:=hid (fun L (hL:0≤L)=>iL hN.nd (f:=24) (k:=0) (ind:=[32,32]) (L:=L) (by decide) hL)
 obtain ⟨F,hF⟩:=nm_ (iS r)
 rw [hF]
 unfold iS at hF
 have htl:(gN r).length=8+r.name.size:=by unfold gN;rw [O_,O_,cA];simp;omega
 obtain ⟨T,hT⟩:=nm_ (gN r)
 rw [hT] at hF htl
 unfold gN at hT
 have hnl:=hN.name
 have hPN:=hN.prm
 obtain ⟨rn,ps,nd⟩:=r
 simp only at hF hT htl hnl hPN hpc hpm hnc hnm HPX HPL
 have HH:=hid h
 simp only [iG]
 clear h hN hX
 have fin:F=([],false)→∀v,v=Value.tuple #[.string ⟨#[]⟩,.bool false]→(Ending.returned v)=Ending.returned (.tuple #[.string (str F.1),.bool F.2]):=fun h v e=>by rw [e,h];rfl
 go_enter func15,ntmps15
 go_upto_region 1 with fail
 obtain ⟨w2,hw2⟩:=nm_ (w.alloc (.cells #[.string rn,.slice pA ps.length pc,.slice nA nd.length nc] 26))
 obtain ⟨K,hKK⟩:=nm_ w.heap.size
 have HX:Hid (w2.heap[K]? = some (.cells #[.string rn,.slice pA ps.length pc,.slice nA nd.length nc] 26 (0,0))∧Below w.heap.size w w2):=hid (by
  rw [←hw2,←hKK];exact ⟨I_ _ _,(J_ _ _).alloc le_ _⟩)
 have hkl:=aC HX.out.1
 obtain ⟨⟨b0,b1,b2⟩,_⟩:=bH HX.out.1
 rw [hw2,hKK]
 clear hw2
 by_cases hc1:4<ps.length
 ·rw [M_ (.inl hc1)] at hF
  have FIN:=hid (fin hF.symm)
  have hz1:(4:Int)<ps.length:=by omega
  clear hF fin
  go_wp2_with fail
  refine L_ (v:=.tuple #[.string ⟨#[]⟩,.bool false]) (by simp [results,results15,go_sem, *]) rfl ?_
  exact ⟨FIN.out _ rfl,hKK▸HX.out.2⟩
 have hz1:¬(4:Int)<ps.length:=by omega
 by_cases hc2:nd.length<1
 ·rw [M_ (.inr (.inl hc2))] at hF
  have FIN:=hid (fin hF.symm)
  have t1:((nd.length:Int) == 0)=true:=D_ (by omega)
  clear hF fin
  go_wp2_with fail
  refine L_ (v:=.tuple #[.string ⟨#[]⟩,.bool false]) (by simp [results,results15,go_sem, *]) rfl ?_
  exact ⟨FIN.out _ rfl,hKK▸HX.out.2⟩
 have t1:((nd.length:Int) == 0)=false:=aW (by omega)
 by_cases hc3:24<nd.length
 ·rw [M_ (.inr (.inr hc3))] at hF
  have FIN:=hid (fin hF.symm)
  have hz3:(24:Int)<nd.length:=by omega
  clear hF fin
  go_wp2_with fail
  refine L_ (v:=.tuple #[.string ⟨#[]⟩,.bool false]) (by simp [results,results15,go_sem, *]) rfl ?_
  exact ⟨FIN.out _ rfl,hKK▸HX.out.2⟩
 have hz3:¬(24:Int)<nd.length:=by omega
 rw [K_ (by omega)] at hF
 clear fin
 obtain ⟨a1,h1⟩:=nm_ ([114,101,99,105,112,101,32]++jZ rn)
 rw [h1] at hT
 have l1:a1.length=7+rn.size:=by rw [←h1,O_,cA];rfl
 have e1:∀W,(Op.stringOp .add ⟨#[114,101,99,105,112,101,32]⟩ rn).run prog W=.ok (.string (str a1)) W:=fun W=>by
  have:=aM [114,101,99,105,112,101,32] (jZ rn) (by rw [cA];simp;omega) W
  rw [h1,show str (jZ rn)=rn from dO rn] at this
  exact this
 have e2:∀W,(Op.stringOp .add (str a1) ⟨#[10]⟩).run prog W=.ok (.string (str T)) W:=fun W=>by rw [←hT];exact aM a1 [10] (by simp;omega) W
 have HPS:=hid (Ft hPN (by omega))
 obtain ⟨PF,hPF⟩:∃PF:Nat→List UInt8,∀i,T++dA (ps.take i)=PF i:=⟨_,fun _=>rfl⟩
 have HPF:=hid hPF
 have hF0:(PF ps.length++[123,10]++(bL nd (eK nd 24) 0 [32,32] nd.length).1++[125,10],decide (0≤(bL nd (eK nd 24) 0 [32,32] nd.length).2))=F:=by rw [←hF,←hPF,List.take_length]
 have HF:=hk_ hF0 hPN htl
 clear hF hF0 hPF hPN htl h1 l1 hT
 go_wp2_with fail
 clear b0 b1 b2 e1 e2
 go_loopg [4,5] (ps.length+1) (fun q s4 s5 wr=>∃i:Nat,s4=.string (str (PF i))∧s5=.int .i64 (i:Nat)∧i≤ps.length∧ps.length - i<q∧Below w2.heap.size w2 wr)
 case atStart=>exact ⟨0,by rw [←HPF.out 0];simp [dA],rfl,h_ _,by omega,J_ _ _⟩
 case round=>
  obtain ⟨i,rfl,rfl,hin,hiq,hb⟩:=hrel
  obtain ⟨gk,rfl⟩:=pk_ gk 1 (by omega)
  have hbx:=(hb.block K hkl).trans HX.out.1
  have hkl2:=aC hbx
  obtain ⟨⟨b0,b1,b2⟩,_⟩:=bH hbx
  have hi0:(0:Int)≤i:=by omega
  have hpl:=HPS.out i
  have htl:=HF.out.2.2
  have hpl2:(PF i).length≤400000:=by rw [←HPF.out i,O_];omega
  have hrow:kI P wr ⟨rn,ps,nd⟩ pA pc nA nc:=HH.out.below (HX.out.2.trans (hb.mono HX.out.2.size))
  by_cases hlt:i<ps.length
  ·have hiz:(i:Int)<ps.length:=by omega
   obtain ⟨ad,rfl,c0,c1,c2,hcl⟩:=jR hrow.prms i hlt
   obtain ⟨p,hp⟩:=nm_ (ps[i])
   have hpn:=HF.out.2.1 p (hp▸g_ hlt)
   have hst:PF (i+1)=PF i++Es p:=by
    rw [←HPF.out,←HPF.out,Z_ hlt,hp]
    simp [dA]
   simp only at c0 c1 c2
   rw [hp] at c0 c1 c2
   obtain ⟨pn,pv,pq⟩:=p
   simp only at c0 c1 c2 hpn
   unfold Es at hst
   simp only at hst
   have hil:=Lib.itoa_length_le pv hpn.2.1 hpn.2.2
   have HSH:=hid (fun W=>Pb pv W hpn.2)
   obtain ⟨iv,hiv⟩:=nm_ (Lib.itoa pv)
   simp only [hiv] at hst hil HSH
   obtain ⟨q0,hq0⟩:=nm_ (PF i++[112,97,114,97,109,32])
   have l0:q0.length=(PF i).length+6:=by rw [←hq0];simp
   obtain ⟨q1,hq1⟩:=nm_ (q0++jZ pn)
   have l1:q1.length=q0.length+pn.size:=by rw [←hq1,O_,cA]
   obtain ⟨q2,hq2⟩:=nm_ (q1++[32,58,61,32])
   have l2:q2.length=q1.length+4:=by rw [←hq2];simp
   obtain ⟨q3,hq3⟩:=nm_ (q2++iv)
   have l3:q3.length=q2.length+iv.length:=by rw [←hq3,O_]
   obtain ⟨q4,hq4⟩:=nm_ (q3++[32,115,99,97,108,101,100])
   have l4:q4.length=q3.length+7:=by rw [←hq4];simp
   have hps:=hpn.1
   have e0:∀W,(Op.stringOp .add (str (PF i)) ⟨#[112,97,114,97,109,32]⟩).run prog W=.ok (.string (str q0)) W:=fun W=>by rw [←hq0];exact aM (PF i) [112,97,114,97,109,32] (by simp;omega) W
   have e1:∀W,(Op.stringOp .add (str q0) pn).run prog W=.ok (.string (str q1)) W:=fun W=>by
    have:=aM q0 (jZ pn) (by rw [cA];omega) W
    rw [hq1] at this
    rwa [show str (jZ pn)=pn from dO pn] at this
   have e2:∀W,(Op.stringOp .add (str q1) ⟨#[32,58,61,32]⟩).run prog W=.ok (.string (str q2)) W:=fun W=>by rw [←hq2];exact aM q1 [32,58,61,32] (by simp;omega) W
   have e3:∀W,(Op.stringOp .add (str q2) (str iv)).run prog W=.ok (.string (str q3)) W:=fun W=>by rw [←hq3];exact aM q2 iv (by omega) W
   have e4:∀W,(Op.stringOp .add (str q3) ⟨#[32,115,99,97,108,101,100]⟩).run prog W=.ok (.string (str q4)) W:=fun W=>by rw [←hq4];exact aM q3 [32,115,99,97,108,101,100] (by simp;omega) W
   have hz0:pq=false→q3++[59,10]=PF (i+1):=fun h=>by rw [hst,←hq3,←hq2,←hq1,←hq0,h];simp
   have hz1':pq=true→q4++[59,10]=PF (i+1):=fun h=>by rw [hst,←hq4,←hq3,←hq2,←hq1,←hq0,h];simp
   have HE:=hj_ hz0 hz1'
   have HBR:=hj_ hb hbx
   clear hst hq0 hq1 hq2 hq3 hq4 hiv hp hrow hb hbx hz0 hz1' hpn hpl htl
   cases pq with
   | false=>
    have e5:∀W,(Op.stringOp .add (str q3) ⟨#[59,10]⟩).run prog W=.ok (.string (str (PF (i+1)))) W:=fun W=>by rw [←HE.out.1 rfl];exact aM q3 [59,10] (by simp;omega) W
    clear l0 l1 l2 l3 l4 hpl2 hil hps
    go_wp2_with fail
    go_region_with (go_at_call 43;refine (HSH.out _).mono ?_;rintro r w9 ⟨rfl,rfl⟩)
    all_goals
     go_wp2_with fail
     go_roundg gk
     case measure=>omega
     case rel=>exact ⟨i+1,rfl,by go_num,by omega,by omega,by first | exact HBR.out.1 | exact HBR.out.1.drew⟩
   | true=>
    have e5:∀W,(Op.stringOp .add (str q4) ⟨#[59,10]⟩).run prog W=.ok (.string (str (PF (i+1)))) W:=fun W=>by rw [←HE.out.2 rfl];exact aM q4 [59,10] (by simp;omega) W
    clear l0 l1 l2 l3 l4 hpl2 hil hps
    go_wp2_with fail
    go_region_with (go_at_call 43;refine (HSH.out _).mono ?_;rintro r w9 ⟨rfl,rfl⟩)
    all_goals
     go_wp2_with fail
     go_roundg gk
     case measure=>omega
     case rel=>exact ⟨i+1,rfl,by go_num,by omega,by omega,by first | exact HBR.out.1 | exact HBR.out.1.drew⟩
  ·obtain rfl:i=ps.length:=by omega
   have hlt':¬((ps.length:Int)<ps.length):=by omega
   have hll:=(HPL.out nd.length (by omega)).1
   have HC:=hid (HPX.out 0 [32,32] nd.length wr (by omega) (by omega) (by omega) (by decide) (by omega) (by omega) (HX.out.2.trans (hb.mono HX.out.2.size)))
   have hF:=HF.out.1
   obtain ⟨⟨pt,pl⟩,hpp⟩:∃p,bL nd (eK nd 24) 0 [32,32] nd.length=p:=⟨_,rfl⟩
   rw [hpp] at hF hll HC
   simp only at hF hll HC
   have hpz:=Ah pl
   have hptl:pt.length≤300000000000:=by omega
   obtain ⟨q0,hq0⟩:=nm_ (PF ps.length++[123,10])
   have l0:q0.length=(PF ps.length).length+2:=by rw [←hq0];simp
   obtain ⟨q1,hq1⟩:=nm_ (q0++pt)
   have l1:q1.length=q0.length+pt.length:=by rw [←hq1,O_]
   obtain ⟨q2,hq2⟩:=nm_ (q1++[125,10])
   rw [hq0,hq1,hq2] at hF
   have e0:∀W,(Op.stringOp .add (str (PF ps.length)) ⟨#[123,10]⟩).run prog W=.ok (.string (str q0)) W:=fun W=>by rw [←hq0];exact aM (PF ps.length) [123,10] (by simp;omega) W
   have e1:∀W,(Op.stringOp .add (str q0) (str pt)).run prog W=.ok (.string (str q1)) W:=fun W=>by rw [←hq1];exact aM q0 pt (by omega) W
   have e2:∀W,(Op.stringOp .add (str q1) ⟨#[125,10]⟩).run prog W=.ok (.string (str q2)) W:=fun W=>by rw [←hq2];exact aM q1 [125,10] (by simp;omega) W
   have HBR:=hid (HX.out.2.trans (hb.mono HX.out.2.size))
   have HFF:=hid hF
   have hs:(⟨#[32,32]⟩:ByteArray)=str [32,32]:=rfl
   clear hF hq0 hq1 hq2 l0 l1 hpp hll hb hbx hrow hptl hpz hpl hpl2 htl hlt
   go_wp2_with (rw [hs])
   refine HC.out.mono ?_
   rintro e w5 ⟨rfl,hb5⟩
   have HB5:=tm_ HBR hb5
   clear hb5
   go_wp2_with fail
   refine L_ (v:=.tuple #[.string (str q2),.bool (decide (0≤pl))]) (by simp [results,results15,go_sem, *]) rfl ?_
   exact ⟨by rw [←HFF.out],hKK▸HB5.out⟩
def uR (l:List bQ) (s:RS):List Ar × RS:=
 let b:=bC l ⟨#[40]⟩ s
 let c:=mH l 8 (b.bad == 0 && !bZ l ⟨#[41]⟩ b) [] b
 (c.1,bC l ⟨#[59]⟩ (bC l ⟨#[41]⟩ c.2))
theorem To {t x} (hx:Dr x eP=false) (h0:x.size≠0):dK (eE t) x=false:=by
 refine E_ (fun hc=>?_)
 have e:=bF.1 hc
 unfold eE at e
 split at e
 ·rename_i h
  rw [e] at h
  rw [hx] at h
  exact absurd h.2 (by decide)
 ·rw [←e] at h0
  exact h0 rfl
theorem xV {l x s} (hx:Dr x eP=false) (h0:x.size≠0):(aF l x s).1=bZ l x s:=by
 unfold aF dN
 rw [To hx h0,Bool.and_false,Bool.false_or]
 cases bZ l x s <;> rfl
theorem eI {l x s} (h:(aF l x s).1=true):bC l x s=(aF l x s).2:=by unfold bC;rw [M_ h]
theorem nC {l x s} (h:(aF l x s).1=false):(aF l x s).2=s:=by
 unfold aF at h ⊢
 split
 ·rename_i hc;rw [M_ hc] at h;exact absurd h (by simp)
 ·rfl
theorem Fu {l x s} (h:(aF l x s).1=true):(aF l x s).2.bad=0:=by
 unfold aF at h ⊢
 split
 ·rename_i hc
  rw [Bool.or_eq_true] at hc
  rcases hc with hc | hc
  ·unfold dN at hc;rw [a_,beq_iff_eq] at hc;exact hc.1
  ·exact (kM hc).2
 ·rename_i hc;rw [K_ hc] at h;exact absurd h (by simp)
section
variable {l : List bQ} {s : RS}
theorem Aq {e} (h:s.bad≠0):bB e s=s:=K_ h
theorem fT {x} (h:s.bad≠0):aF l x s=(false,s):=by
 unfold aF dN bZ
 rw [aW h,Bool.false_and,Bool.false_and,K_ (by simp)]
theorem nD {x} (h:s.bad≠0):bC l x s=s:=by
 unfold bC
 rw [fT h,K_ (by simp)]
 exact Aq h
theorem As {had} (h:s.bad≠0):bG l had s=(⟨#[]⟩,s):=by unfold bG;rw [M_ h]
theorem Pf (h:s.bad≠0):dZ l s=(eD,s):=by unfold dZ;rw [M_ h]
theorem Pg (h:s.bad≠0):∀(f:Nat) (us:List ByteArray),fD l f us s=(us,s)
 | 0,us=>rfl
 | f+1,us=>by rw [fD,fT h,K_ (by simp)]
theorem gY {nd} (h:s.bad≠0):aL l nd s=([],s):=by
 unfold aL
 rw [nD h]
 have:dB l nd 30 [] s=([],s):=by rw [dB,K_ (fun hc=>h hc.1)]
 simp only [this]
 rw [nD h]
theorem Ph (h:s.bad≠0):(lK l s).2=s:=by
 unfold lK
 simp only [As h,nD h]
 have:mH l 8 (s.bad == 0 && !bZ l ⟨#[41]⟩ s) [] s=([],s):=by rw [aW h,Bool.false_and,mH,K_ (by simp)]
 rw [this]
 simp only [nD h]
def sY (w:ByteArray):Int:=if dK w Bp=true then 3 else 1
theorem nE {blk} (hblk:∀s,s.bad≠0→blk s=([],s)) {w} (hb:s.bad=0) (hw:w=qS∨w=qH∨w=jP∨w=Bp∨w=fK) (hn:24<s.nodes+sY w):(dI l blk w s).2=⟨s.at_,2,s.nodes+sY w⟩:=by
 have hbeg:∀n:Int,24<s.nodes+n→aU n s=⟨s.at_,2,s.nodes+n⟩:=fun n hn=>by
  unfold aU
  rw [M_ hn]
  unfold bB
  rw [M_ hb]
 have h2:∀n:Int,(⟨s.at_,2,s.nodes+n⟩:RS).bad≠0:=fun n=>by show (2:Int)≠0;decide
 rcases hw with rfl | rfl | rfl | rfl | rfl
 ·have e:sY qS=1:=by decide
  rw [e] at hn ⊢
  unfold dI
  rw [M_ (by decide)]
  simp only [hbeg 1 hn,fT (h2 1),hblk _ (h2 1)]
 ·have e:sY qH=1:=by decide
  rw [e] at hn ⊢
  unfold dI
  rw [M_ (by decide)]
  simp only [hbeg 1 hn,fT (h2 1),hblk _ (h2 1)]
 ·have e:sY jP=1:=by decide
  rw [e] at hn ⊢
  unfold dI
  rw [K_ (by decide),M_ (by decide)]
  simp only [hbeg 1 hn,fT (h2 1),As (h2 1),Pg (h2 1),hblk _ (h2 1)]
 ·have e:sY Bp=3:=by decide
  rw [e] at hn ⊢
  unfold dI
  rw [K_ (by decide),K_ (by decide),M_ (by decide)]
  simp only [hbeg 3 hn,fT (h2 3),Pf (h2 3),hblk _ (h2 3)]
  rw [K_ (by simp)]
 ·have e:sY fK=1:=by decide
  rw [e] at hn ⊢
  unfold dI
  rw [K_ (by decide),K_ (by decide),K_ (by decide),M_ (by decide)]
  simp only [hbeg 1 hn,fT (h2 1),Ph (h2 1)]
end
section
variable {l : List bQ} {s : RS}
theorem eT {x}:(bC l x s).bad=0→s.bad=0∧(bC l x s).nodes=s.nodes:=by
 unfold bC aF
 by_cases h:(dN l x s || bZ l x s)=true
 ·rw [M_ h]
  intro _
  rw [Bool.or_eq_true] at h
  refine ⟨?_,rfl⟩
  rcases h with h | h
  ·unfold dN at h;rw [a_,beq_iff_eq] at h;exact h.1
  ·exact (kM h).2
 ·rw [K_ h]
  intro h
  exact absurd h (cK (by decide) _)
end
section
variable {l : List bQ} {s : RS}
def gG (s s':RS):Prop:=s'.bad=0→s.bad=0∧s'.nodes=s.nodes
theorem gG.refl:gG s s:=fun h=>⟨h,rfl⟩
theorem gG.trans {a b c} (h1:gG a b) (h2:gG b c):gG a c:=fun h=>⟨(h1 (h2 h).1).1,(h2 h).2.trans (h1 (h2 h).1).2⟩
theorem sZ {e} (he:e≠0):gG s (bB e s):=fun h=>absurd h (cK he s)
theorem jT (had):gG s (bG l had s).2:=by
 unfold bG
 split
 ·exact .refl
 ·rename_i h
  split
  ·exact sZ (by decide)
  ·split
   ·exact sZ (by decide)
   ·exact fun _=>⟨Decidable.byContradiction h,rfl⟩
theorem xW (n k):gG s (cS l n k s):=by
 unfold cS
 split
 ·exact sZ (by decide)
 ·exact .refl
theorem Fv:gG s (dZ l s).2:=by
 unfold dZ
 split
 ·exact .refl
 ·rename_i h
  exact fun _=>⟨Decidable.byContradiction h,rfl⟩
theorem uS (x):gG s (bC l x s):=eT
theorem jE {x}:gG s (aF l x s).2:=by
 cases h:(aF l x s).1
 ·rw [nC h];exact .refl
 ·rw [←eI h];exact eT
theorem Tp (had):gG s (Ds l had s).2:=(((xW _ _).trans (jT _)).trans (uS _)).trans Fv
theorem Fw:∀(f:Nat) (q:Bool) (al:List Ar) (s:RS),gG s (mH l f q al s).2
 | 0,_,_,_=>.refl
 | f+1,q,al,s=>by
  rw [mH]
  split
  ·exact ((Tp _).trans jE).trans (Fw f _ _ _)
  ·exact .refl
theorem Tq:gG s (uR l s).2:=(((uS _).trans (Fw _ _ _ _)).trans (uS _)).trans (uS _)
theorem Fx:∀(f:Nat) (us:List ByteArray) (s:RS),gG s (fD l f us s).2
 | 0,_,_=>.refl
 | f+1,us,s=>by
  rw [fD]
  split
  ·exact ((jE.trans (xW _ _)).trans (jT _)).trans (Fx f _ _)
  ·exact jE
end
section
variable {l : List bQ} {s : RS}
theorem Ly:∀(f:Nat) (us:List ByteArray) (s:RS),us.length≤5→(fD l f us s).2.bad=0→(fD l f us s).1.length≤5
 | 0,us,s,h5,_=>h5
 | f+1,us,s,h5,h=>by
  rw [fD] at h ⊢
  split
  ·rename_i hc
   rw [M_ hc] at h
   simp only at h ⊢
   by_cases h6:us.length=5
   ·exfalso
    have hb:=((Fx (l:=l) f (us++[(bG l us (cS l us.length 5 (aF l ⟨#[44]⟩ s).2)).1]) _) h).1
    have hb1:=((jT (l:=l) us) hb).1
    rw [h6] at hb hb1
    by_cases hn:kC l (aF l ⟨#[44]⟩ s).2=true
    ·have:cS l ((5:Nat):Int) 5 (aF l ⟨#[44]⟩ s).2=bB 2 (aF l ⟨#[44]⟩ s).2:=by unfold cS;rw [M_ ⟨by decide,hn⟩]
     rw [this] at hb1
     exact cK (by decide) _ hb1
    ·have:cS l ((5:Nat):Int) 5 (aF l ⟨#[44]⟩ s).2=(aF l ⟨#[44]⟩ s).2:=by unfold cS;rw [K_ (fun hc=>hn hc.2)]
     rw [this] at hb hb1
     unfold bG at hb
     rw [K_ (by rw [hb1];simp),M_ (by simpa using hn)] at hb
     exact cK (by decide) _ hb
   ·exact Ly f _ _ (by simp;omega) h
  ·exact h5
def Jp (p:Pc):Prop:=∀b x,x∈cX b p→x.units.length≤5
theorem Lz:∀(ps:List Pc),(∀p,p∈ps→Jp p)→∀b x,x∈(aV b ps).1→x.units.length≤5
 | [],_,b,x,hx=>by rw [dR] at hx;simp at hx
 | p::ps,h,b,x,hx=>by
  rw [cH] at hx
  rcases G_ hx with hx | hx
  ·exact h p (by simp) _ x hx
  ·exact Lz ps (fun q hq=>h q (by simp [hq])) _ x hx
theorem Tr {k us ps} (h5:us.length≤5) (h:∀p,p∈ps→Jp p):Jp (.row k us ps):=by
 intro b x hx
 rw [cX] at hx
 rcases List.mem_cons.1 hx with rfl | hx
 ·exact h5
 ·exact Lz ps h _ x hx
theorem Fy {e a c} (ha:∀p,p∈a→Jp p) (hc:∀p,p∈c→Jp p):Jp (.choice e a c):=by
 intro b x hx
 rw [cX] at hx
 rcases List.mem_cons.1 hx with rfl | hx
 ·exact h_ _
 ·rcases List.mem_cons.1 hx with rfl | hx
  ·exact h_ _
  ·rcases G_ hx with hx | hx
   ·exact Lz a ha _ x hx
   ·rcases List.mem_cons.1 hx with rfl | hx
    ·exact h_ _
    ·exact Lz c hc _ x hx
theorem Jq {nm al}:Jp (.step nm al):=by
 intro b x hx
 rw [cX] at hx
 simp at hx
 subst hx
 exact h_ _
theorem Ma {nd} (hg:∀s,(nd s).2.bad=0→Jp (nd s).1):∀(f:Nat) (ps:List Pc) (s:RS),(∀p,p∈ps→Jp p)→(dB l nd f ps s).2.bad=0→∀p,p∈(dB l nd f ps s).1→Jp p
 | 0,ps,s,h,_=>h
 | f+1,ps,s,h,hb=>by
  rw [dB] at hb ⊢
  split
  ·rename_i hc
   rw [M_ hc] at hb
   have h0:(nd s).2.bad=0:=by
    refine Decidable.byContradiction (fun hn=>?_)
    have:dB l nd f (ps++[(nd s).1]) (nd s).2=(ps++[(nd s).1],(nd s).2):=by
     cases f with
     | zero=>rfl
     | succ f=>rw [dB,K_ (fun hc=>hn hc.1)]
    rw [this] at hb
    exact hn hb
   refine Ma hg f _ _ (fun p hp=>?_) hb
   rcases G_ hp with hp | hp
   ·exact h p hp
   ·simp at hp
    subst hp
    exact hg s h0
  ·exact h
theorem Mb {nd} (hg:∀s,(nd s).2.bad=0→Jp (nd s).1) (h:(aL l nd s).2.bad=0):∀p,p∈(aL l nd s).1→Jp p:=by
 unfold aL at h ⊢
 simp only at h ⊢
 exact Ma hg 30 [] _ (fun p hp=>by simp at hp) (eT h).1
theorem Xj {blk} (hs:∀s,s.bad≠0→blk s=([],s)) (hg:∀s,(blk s).2.bad=0→∀p,p∈(blk s).1→Jp p) {w} (h:(dI l blk w s).2.bad=0):Jp (dI l blk w s).1:=by
 have hb:∀s,(blk s).2.bad=0→s.bad=0:=fun s h=>Decidable.byContradiction (fun hn=>by rw [hs s hn] at h;exact hn h)
 unfold dI at h ⊢
 split
 ·rename_i hc
  rw [M_ hc] at h
  exact Tr (h_ _) (hg _ h)
 ·rename_i hc
  rw [K_ hc] at h
  split
  ·rename_i hc
   rw [M_ hc] at h
   exact Tr (Ly 8 _ _ (by simp) (hb _ h)) (hg _ h)
  ·rename_i hc
   rw [K_ hc] at h
   split
   ·rename_i hc
    rw [M_ hc] at h
    simp only at h ⊢
    split
    ·rename_i hd
     rw [M_ hd] at h
     exact Fy (hg _ (jE (hb _ h)).1) (hg _ h)
    ·rename_i hd
     rw [K_ hd] at h
     exact Fy (hg _ (jE h).1) (fun p hp=>by simp at hp)
   ·rename_i hc
    rw [K_ hc] at h
    split
    ·exact Jq
    ·exact Jq
theorem Mc:∀(f:Nat) (s:RS),(gK l f s).2.bad=0→Jp (gK l f s).1
 | 0,_,_=>Jq
 | f+1,s,h=>by
  rw [gK] at h ⊢
  exact Xj (fun _=>gY) (fun _=>Mb (Mc f)) h
end
theorem uT {s} (h:(iF s).2.1=0):∀x,x∈(iF s).1.nodes→x.units.length≤5:=by
 unfold iF at h ⊢
 simp only at h ⊢
 by_cases h0:(cI s).2.1=0
 ·rw [K_ (by omega)] at h ⊢
  by_cases hr:(rW (cI s).1).2.2.2.bad=0
  ·rw [K_ (by omega)]
   generalize (cI s).1=l at hr ⊢
   unfold rW at hr ⊢
   simp only at hr ⊢
   generalize (oO l 6 [] (bG l [] (bC l gQ ⟨0,0,1⟩)).2).2=s7 at hr ⊢
   have hb:(aL l (gK l 30) s7).2.bad=0:=by
    split at hr
    ·rename_i hc;exact hc.1
    ·exact hr
   exact fun x hx=>Tr (h_ _) (Mb (Mc 30) hb) 0 x hx
  ·rw [M_ hr] at h
   exact absurd h hr
 ·rw [M_ h0] at h
  exact absurd h h0
end Go.Proofs.YtgcfjkfipkfijaaGreatDoor
