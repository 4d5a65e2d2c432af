/- Part 46 of the proof of rtrees_card; no conditions. -/
import Derived.Test.YtgcfjkfipkfijaaGreatDoorTr01
import Derived.Test.YtgcfjkfipkfijaaGreatDoorTr45
import Derived.Test.YtgcfjkfipkfijaaGreatDoorTr11
import Derived.Lib.IndexBytes
set_option maxRecDepth 100000
set_option maxHeartbeats 8000000
namespace Go.Proofs.YtgcfjkfipkfijaaGreatDoor
open Go Go.RowKit Go.Lib _root_.Go.Proofs.Tryz
section
variable {l : List bQ} {g c b0 more of n b : Nat} {A B : Option Addr} {s : RS} {w : World} {nm pV : Value} {qs : List NQ} {m : Int} {nd : RS → Pc × RS}
theorem oC {xs ys x i} (h:xs.length=i) (f:Nd→Nd):(xs++x::ys).modify i f=xs++f x::ys:=by subst h;exact pJ xs ys x f
theorem tC {xs n of n7} (hq:xs.length=n) (hof:of<n) (e a b) (h7:n7=n+2+(aV ((n+1+1:Nat):Int) a).1.length) :
  (((((xs++[(⟨4,[],[],⟨#[]⟩,[],e⟩:Nd)]).modify of (bX [(n:Int)])++[(rQ 0).nd]).modify n (bX [((n+1:Nat):Int)])).modify (n+1) (bX (aV ((n+1+1:Nat):Int) a).2)++(aV ((n+1+1:Nat):Int) a).1++[(rQ 0).nd]).modify n (bX [(n7:Int)])).modify n7 (bX (aV ((n7+1:Nat):Int) b).2)++(aV ((n7+1:Nat):Int) b).1
        = xs.modify of (bX [(n:Int)])++cX n (.choice e a b):=by
 rw [cX]
 have c2:(n:Int)+2=((n+1+1:Nat):Int):=by omega
 rw [c2]
 obtain ⟨P,hP⟩:=nm_ (aV ((n+1+1:Nat):Int) a)
 rw [hP] at h7 ⊢
 have c3:(n:Int)+3+P.1.length=((n7+1:Nat):Int):=by omega
 have c4:((n+1+1:Nat):Int)+P.1.length=(n7:Int):=by omega
 have c5:(n:Int)+1=((n+1:Nat):Int):=by omega
 simp only [c3,c4,c5]
 obtain ⟨R,hR⟩:=nm_ (aV ((n7+1:Nat):Int) b)
 rw [hR,jY (by omega:of<xs.length)]
 obtain ⟨Y,hY⟩:=nm_ (xs.modify of (bX [(n:Int)]))
 have hYl:Y.length=n:=by rw [←hY,List.length_modify,hq]
 rw [hY]
 have s1:∀f,(Y++[(⟨4,[],[],⟨#[]⟩,[],e⟩:Nd)]++[(rQ 0).nd]).modify n f=Y++f ⟨4,[],[],⟨#[]⟩,[],e⟩::[(rQ 0).nd]:=fun f=>by rw [p_];exact oC hYl f
 have s2:∀N f,(Y++N::[(rQ 0).nd]).modify (n+1) f=Y++N::[f (rQ 0).nd]:=fun N f=>by
  have:=oC (xs:=Y++[N]) (ys:=[]) (x:=(rQ 0).nd) (i:=n+1) (by rw [O_,hYl];rfl) f
  simpa using this
 have s3:∀N Z f,(Y++N::[Z]++P.1++[(rQ 0).nd]).modify n f=Y++f N::(Z::(P.1++[(rQ 0).nd])):=fun N Z f=>by
  have:=oC (xs:=Y) (ys:=Z::(P.1++[(rQ 0).nd])) (x:=N) hYl f
  simpa using this
 have s4:∀N Z f,(Y++N::(Z::(P.1++[(rQ 0).nd]))).modify n7 f=Y++N::(Z::(P.1++[f (rQ 0).nd])):=fun N Z f=>by
  have:=oC (xs:=Y++N::Z::P.1) (ys:=[]) (x:=(rQ 0).nd) (i:=n7) (by simp only [O_,P_];omega) f
  simpa using this
 rw [s1,s2,s3,s4]
 simp [bX,rQ]
theorem Uq (T:fZ l) (hl:l.length≤2001) (hn:yJ l g A c b0 nm pV (m+1) nd) (hon:fL l (m+1) nd) (h:yI l g A c b0 more nm pV w s B n b qs) (hb:s.bad=0) (hm:m≤s.nodes) (hof:of<n) (hfit:n+more+3≤24) (y) (hyk:y=⟨#[105,102]⟩) (hy:eE (aE l s.at_)=y) :
  Calls prog 63 #[.pointer (some ⟨g,0,none⟩),.int .i64 of,.int .i64 more] w (Xv l g A c b0 more nm pV B n b qs of [(n:Int)] (cX n (dI l (aL l nd) y s).1) (dI l (aL l nd) y s).2 w):=by
 obtain ⟨hB,hE⟩:=h.begin hb 3 hfit
 have hE1:aU 3 s=⟨s.at_,s.bad,s.nodes+3⟩:=hE
 have htk:=oB (k:=s.nodes+3) hb hy
 have hmt:=eI htk
 obtain ⟨s1,h1⟩:=nm_ ((aF l y ⟨s.at_,s.bad,s.nodes+3⟩).2)
 rw [h1] at hmt
 have HQ:=hj_ hE1 h1
 have hnx:eC l s=aE l s.at_:=M_ hb
 have HNX:=hid (gE h.xn.rdr)
 have hts:=fU T s
 have HKY:=hid (fun W=>jV (eC l s) W hts)
 rw [hnx] at HNX
 simp only [hnx,hy] at HKY
 have H:=hk_ h hB hmt
 clear h hB hE hE1 htk hmt h1 hnx hts hy
 subst hyk
 go_enter func63,ntmps63
 go_wp2_with fail
 refine HNX.out.mono ?_
 rintro e w1 ⟨rfl,hb1⟩
 have HW1:=hid ((YW.refl H.out.2.1).below hb1)
 clear hb1
 go_wp2_with fail
 refine (HKY.out w1).mono ?_
 rintro e w2 ⟨rfl,hb2⟩
 have HW2:=hid (HW1.out.below hb2)
 obtain ⟨⟨q0,q1,q2,q3,q4,q5⟩,_⟩:=iQ HW2.out.st.xn.rdr.rd
 have hgl:=HW2.out.st.xn.rdr.lt
 clear hb2
 go_wp2_with fail
 refine (bO T HW2.out.st.xn.rdr ⟨#[105,102]⟩ (by decide)).mono ?_
 have hmt:=H.out.2.2
 have hon1:=aQ T.fin ⟨#[105,102]⟩ (by decide) HW2.out.st.xn.rdr.inr
 have hct:=eT (l:=l) (s:=⟨s.at_,s.bad,s.nodes+((3:Nat):Int)⟩) (x:=⟨#[105,102]⟩)
 rw [show (s.nodes+((3:Nat):Int))=s.nodes+3 from rfl] at hon1 hct ⊢
 rw [hmt] at hon1 hct ⊢
 rintro e w3 ⟨rfl,hr3,hs3⟩
 have HW3:=hid (HW2.out.step hs3 hr3 hon1.1 hct)
 have hm1:m+1≤s1.nodes:=by have h1:=hon1.2;simp only at h1;omega
 clear hr3 hs3 hon1 hct hmt q0 q1 q2 q3 q4 q5 hgl
 obtain ⟨⟨e0,s2⟩,h2⟩:∃x,dZ l s1=x:=⟨_,rfl⟩
 have hxa:=Bb hl HW3.out.st.xn.rdr
 have hon2:=lM T.take HW3.out.st.xn.rdr.inr
 have hct2:=Fv (l:=l) (s:=s1)
 rw [h2] at hxa hon2 hct2
 have HX:=hl_ hxa hon2 hct2 h2
 clear hxa hon2 hct2 h2
 go_wp2_with fail
 refine HX.out.1.mono ?_
 rintro e w4 ⟨eB,ed,rfl,hx4,hr4,hs4⟩
 simp only at hx4 hr4
 have HW4:=hid (HW3.out.step hs4 hr4 HX.out.2.1.1 HX.out.2.2.1)
 have hrs:mX (fun k=>k<b0∨k∈bJ (.slice B n b) qs) w4 ⟨⟨4,[],[],⟨#[]⟩,[],e0⟩,none,0,none,0,none,0,eB,ed⟩:=⟨(fV _ _ 0).us,(fV _ _ 0).gs,hx4.more (fun k hk=>.inl (by
  have h0:=HW3.out.st.xn.lo
  rcases hk with hk | hk
  ·omega
  ·exact (HW3.out.st.xn.nodes.lt k hk).2))⟩
 have HAD:=hid (lW HW4.out.st.xn of hof (by omega) (fun q hq=>by have:=HW4.out.st.kids q hq;omega) ⟨⟨4,[],[],⟨#[]⟩,[],e0⟩,none,0,none,0,none,0,eB,ed⟩ rfl rfl hrs)
 clear hx4 hr4 hs4 hrs
 go_wp2_with fail
 refine HAD.out.mono ?_
 rintro e w5 ⟨rfl,B5,b5,qs5,hx5,hm5,hs5,hk5⟩
 have HW5:=hid (HW4.out.add (q0:=⟨⟨4,[],[],⟨#[]⟩,[],e0⟩,none,0,none,0,none,0,eB,ed⟩) rfl hof hx5 hm5 hs5 hk5)
 clear hx5 hm5 hs5 hk5
 have HAD2:=hid (lW HW5.out.st.xn n (o_ n) (by omega) (fun q hq=>by have:=HW5.out.st.kids q hq;omega) (rQ 0) rfl rfl (fV _ _ _))
 go_wp2_with fail
 refine HAD2.out.mono ?_
 rintro e w6 ⟨rfl,B6,b6,qs6,hx6,hm6,hs6,hk6⟩
 have HW6:=hid (HW5.out.add (q0:=rQ 0) rfl (o_ n) hx6 hm6 hs6 hk6)
 clear hx6 hm6 hs6 hk6
 have hm2:m+1≤s2.nodes:=by have h1:=HX.out.2.1.2;have h2:=hm1;omega
 have hadd:IntKind.i64.wrap ((more:Int)+1)=more+1:=IntWalk.i64_in _ (by omega)
 have hbd:=lB T hn hon HW6.out.st hm2 (o_ (n+1))
 rw [show ((more+1:Nat):Int)=(more:Int)+1 by omega] at hbd
 have HBD:=hid hbd
 clear hbd
 go_wp2_with fail
 refine HBD.out.mono ?_
 rintro e w7 ⟨rfl,B7,n7,b7,qs7,hY⟩
 have HW7:=hid (HW6.out.body lC hY)
 have hl7:n+1+1≤n7:=hY.len
 clear hY
 have hf7:=HW7.out.st.fit
 have HAD3:=hid (lW HW7.out.st.xn n (by omega) (by omega) (fun q hq=>by have:=HW7.out.st.kids q hq;omega) (rQ 0) rfl rfl (fV _ _ _))
 go_wp2_with fail
 refine HAD3.out.mono ?_
 rintro e w8 ⟨rfl,B8,b8,qs8,hx8,hm8,hs8,hk8⟩
 have HW8:=hid (HW7.out.add (q0:=rQ 0) rfl (by omega) hx8 hm8 hs8 hk8)
 clear hx8 hm8 hs8 hk8
 obtain ⟨⟨qe,s9⟩,h9⟩:∃x,aF l gF (aL l nd s2).2=x:=⟨_,rfl⟩
 have h7':(aL l nd s2).2.bad=0→n7=n+2+(aV ((n+1+1:Nat):Int) (aL l nd s2).1).1.length:=fun hb=>by
  have h1:=c_ List.length (HW7.out.nds hb)
  have h2:=HW7.out.st.xn.nodes.len
  have h3:=HW7.out.was
  simp only [U_,O_,List.length_modify,List.length_singleton] at h1
  omega
 have HL7:=hid h7'
 have HT9:=hid h9
 have hXif:dI l (aL l nd) ⟨#[105,102]⟩ s=if qe=true then (.choice e0 (aL l nd s2).1 (aL l nd s9).1,(aL l nd s9).2) else (.choice e0 (aL l nd s2).1 [],s9):=by
  have hA:dI l (aL l nd) ⟨#[105,102]⟩ s=(if (aF l gF (aL l nd (dZ l (aF l ⟨#[105,102]⟩ (aU 3 s)).2).2).2).1=true then (.choice (dZ l (aF l ⟨#[105,102]⟩ (aU 3 s)).2).1 (aL l nd (dZ l (aF l ⟨#[105,102]⟩ (aU 3 s)).2).2).1 (aL l nd (aF l gF (aL l nd (dZ l (aF l ⟨#[105,102]⟩ (aU 3 s)).2).2).2).2).1,(aL l nd (aF l gF (aL l nd (dZ l (aF l ⟨#[105,102]⟩ (aU 3 s)).2).2).2).2).2) else (.choice (dZ l (aF l ⟨#[105,102]⟩ (aU 3 s)).2).1 (aL l nd (dZ l (aF l ⟨#[105,102]⟩ (aU 3 s)).2).2).1 [],(aF l gF (aL l nd (dZ l (aF l ⟨#[105,102]⟩ (aU 3 s)).2).2).2).2)):=by
   unfold dI
   rw [K_ (by decide),K_ (by decide),M_ (by decide)]
  rw [hA,HQ.out.1,HQ.out.2,HX.out.2.2.2]
  simp only
  rw [h9]
 have HXI:=hid hXif
 have HI:=hid (kT T HW8.out.st.xn.rdr gF (by decide))
 rw [h9] at HI
 clear h9 h7' hXif
 cases qe with
 | false=>
  have hno:=nC (l:=l) (x:=gF) (s:=(aL l nd s2).2) (by rw [HT9.out])
  rw [HT9.out] at hno
  simp only at hno
  subst hno
  go_wp2_with fail
  refine HI.out.mono ?_
  rintro e w9 ⟨rfl,hb9⟩
  have HW9:=hid (HW8.out.below hb9)
  clear hb9
  go_wp2_with fail
  go_end0
  rw [HXI.out,K_ (by decide)]
  refine ⟨rfl,B8,n7+1,b8,qs8,HW9.out.way (fun hb=>?_)⟩
  have h1:=tC (xs:=qs.map (·.nd)) (by rw [U_];exact HW9.out.was) hof e0 (aL l nd s2).1 [] (HL7.out hb)
  rw [dR] at h1
  rw [←h1,yH,List.append_nil]
 | true=>
  have hmt9:=eI (l:=l) (x:=gF) (s:=(aL l nd s2).2) (by rw [HT9.out])
  have hok9:=Fu (l:=l) (x:=gF) (s:=(aL l nd s2).2) (by rw [HT9.out])
  have hb8:(aL l nd s2).2.bad=0:=by
   have:=eT (l:=l) (x:=gF) (s:=(aL l nd s2).2)
   rw [hmt9] at this
   exact (this hok9).1
  have hn9:=eT (l:=l) (x:=gF) (s:=(aL l nd s2).2)
  rw [hmt9] at hn9
  rw [HT9.out] at hmt9 hok9 hn9
  simp only at hmt9 hok9 hn9
  have HM9:=hk_ hmt9 hn9 hb8
  clear hmt9 hok9 hn9 hb8
  go_wp2_with fail
  refine HI.out.mono ?_
  rintro e w9 ⟨rfl,hb9⟩
  have HW9:=hid (HW8.out.below hb9)
  clear hb9
  go_wp2_with fail
  refine (bO T HW9.out.st.xn.rdr gF (by decide)).mono ?_
  have hon9:=aQ T.fin gF (by decide) HW9.out.st.xn.rdr.inr
  rw [HM9.out.1] at hon9 ⊢
  rintro e w10 ⟨rfl,hr10,hs10⟩
  have HW10:=hid (HW9.out.step hs10 hr10 hon9.1 HM9.out.2.1)
  have hm9:m+1≤s9.nodes:=by
   have h1:=hon9.2
   have h2:=(dW T.fin hon HX.out.2.1.1 hm2).2
   omega
  clear hr10 hs10 hon9
  have HBD2:=hid (lB T hn hon HW10.out.st hm9 (o_ n7))
  go_wp2_with fail
  refine HBD2.out.mono ?_
  rintro e w11 ⟨rfl,B11,n11,b11,qs11,hY⟩
  have HW11:=hid (HW10.out.body lC hY)
  clear hY
  go_wp2_with fail
  go_end0
  rw [HXI.out,M_ trivial]
  refine ⟨rfl,B11,n11,b11,qs11,HW11.out.way (fun hb=>?_)⟩
  exact tC (xs:=qs.map (·.nd)) (by rw [U_];exact HW11.out.was) hof e0 (aL l nd s2).1 (aL l nd s9).1 (HL7.out HM9.out.2.2)
end
section
variable {l : List bQ} {g c b0 more of n b : Nat} {A B : Option Addr} {s : RS} {w : World} {nm pV : Value} {qs : List NQ} {m : Int} {nd : RS → Pc × RS}
def AR (us:List ByteArray) (U:Option Addr) (u:Nat):NQ:=⟨⟨2,[],us,⟨#[]⟩,[],eD⟩,none,0,U,u,none,0,none,0⟩
theorem Kf {us U u} (hq:qs.length=n) (hof:of<n) (ps):((qs.map (·.nd)++[(AR us U u).nd]).modify of (bX [(n:Int)])).modify n (bX (aV ((n+1:Nat):Int) ps).2)++(aV ((n+1:Nat):Int) ps).1=(qs.map (·.nd)).modify of (bX [(n:Int)])++cX n (.row 2 us ps):=by
 rw [jY (by rw [U_];omega)]
 have hl:((qs.map (·.nd)).modify of (bX [(n:Int)])).length=n:=by rw [List.length_modify,U_,hq]
 have h1:=pJ ((qs.map (·.nd)).modify of (bX [(n:Int)])) [] (AR us U u).nd (bX (aV ((n+1:Nat):Int) ps).2)
 rw [hl] at h1
 rw [h1,cX,p_,show ((n+1:Nat):Int)=(n:Int)+1 by omega]
 rfl
structure Yn (l:List bQ) (g:Nat) (A:Option Addr) (c:Nat) (t:RT) (w0 wr:World) (U:Option Addr) (u:Nat) (us:List ByteArray) (s0 s:RS):Prop where
 rows:aR aN.str 9 w0.heap.size (fun k=>k<w0.heap.size) wr U us.length u (us.map sE)
 rdr:vO l g A c wr s t
 same:Same [g] w0 wr
 cnt:gG s0 s
 lt:g<w0.heap.size
theorem Yn.step {U u us s0 s' w0 wr w'} {t:RT} (h:Yn l g A c t w0 wr U u us s0 s) (hs:Same [g] wr w') (hr:Cv w' g A l.length c s' t) (hi:iY l s') (hn:gG s s'):Yn l g A c t w0 w' U u us s0 s':=
 have hl:=h.lt
 ⟨h.rows.keepS hs (fun k hk e=>by simp at hk;have:=(h.rows.blk k e).1;omega),h.rdr.next hr hs (fun k hk=>by simp at hk;omega) hi,h.same.then_ hs,h.cnt.trans hn,hl⟩
theorem Yn.push {U u us s0 w0 wr w6} {t:RT} {g2 cap x} (h:Yn l g A c t w0 wr U u us s0 s) (hG:aR aN.str 9 w0.heap.size (fun k=>k<w0.heap.size) w6 (some ⟨g2,0,none⟩) (us.length+1) cap (us.map sE++[(x,[.string x])])) (hS:Same (Value.slice U us.length u).ownBlock.toList wr w6) :
  Yn l g A c t w0 w6 (some ⟨g2,0,none⟩) cap (us++[x]) s0 s:=by
 have hl:=h.lt
 have hlen:(us++[x]).length=us.length+1:=by simp
 have hno:∀k,k∈(Value.slice U us.length u).ownBlock.toList→w0.heap.size≤k:=fun k hk=>(h.rows.blk k (by simpa using hk)).1
 refine ⟨by rw [hlen,f_];exact hG,h.rdr.next (hS.heap (fun hc=>by have:=hno g hc;omega) h.rdr.rd) hS (fun k hk=>by have:=hno k hk;omega) h.rdr.inr,h.same.trans hS (fun y hy=>.inr (hno y hy)),h.cnt,hl⟩
theorem Kg (T:fZ l) (hn:yJ l g A c b0 nm pV (m+1) nd) (hon:fL l (m+1) nd) (h:yI l g A c b0 more nm pV w s B n b qs) (hb:s.bad=0) (hm:m≤s.nodes) (hof:of<n) (hfit:n+more+1≤24) (y) (hyk:y=⟨#[117,110,105,116]⟩) (hy:eE (aE l s.at_)=y) :
  Calls prog 63 #[.pointer (some ⟨g,0,none⟩),.int .i64 of,.int .i64 more] w (Xv l g A c b0 more nm pV B n b qs of [(n:Int)] (cX n (dI l (aL l nd) y s).1) (dI l (aL l nd) y s).2 w):=by
 obtain ⟨hB,hE⟩:=h.begin hb 1 hfit
 have hE1:aU 1 s=⟨s.at_,s.bad,s.nodes+1⟩:=hE
 have htk:=oB (k:=s.nodes+1) hb hy
 have hmt:=eI htk
 obtain ⟨s1,h1⟩:=nm_ ((aF l y ⟨s.at_,s.bad,s.nodes+1⟩).2)
 rw [h1] at hmt
 obtain ⟨a,ha⟩:=nm_ (bG l [] s1)
 obtain ⟨⟨us6,s6⟩,h6⟩:∃x,fD l 8 [a.1] a.2=x:=⟨_,rfl⟩
 have hst:dI l (aL l nd) y s=(.row 2 us6 (aL l nd s6).1,(aL l nd s6).2):=by
  subst hyk
  have hA:dI l (aL l nd) ⟨#[117,110,105,116]⟩ s=(.row 2 (fD l 8 [(bG l [] (aF l ⟨#[117,110,105,116]⟩ (aU 1 s)).2).1] (bG l [] (aF l ⟨#[117,110,105,116]⟩ (aU 1 s)).2).2).1 (aL l nd (fD l 8 [(bG l [] (aF l ⟨#[117,110,105,116]⟩ (aU 1 s)).2).1] (bG l [] (aF l ⟨#[117,110,105,116]⟩ (aU 1 s)).2).2).2).1,(aL l nd (fD l 8 [(bG l [] (aF l ⟨#[117,110,105,116]⟩ (aU 1 s)).2).1] (bG l [] (aF l ⟨#[117,110,105,116]⟩ (aU 1 s)).2).2).2).2):=by
   unfold dI
   rw [K_ (by decide),M_ (by decide)]
  rw [hA,hE1,h1,ha,h6]
 have hnx:eC l s=aE l s.at_:=M_ hb
 have HNX:=hid (gE h.xn.rdr)
 have hts:=fU T s
 have HKY:=hid (fun W=>jV (eC l s) W hts)
 rw [hnx] at HNX
 simp only [hnx,hy] at HKY
 have H:=hk_ h hB hmt
 have HST:=hid hst
 have HS:=hj_ ha h6
 clear h hB hE hE1 htk hmt h1 hnx hts hy ha h6 hst
 subst hyk
 go_enter func63,ntmps63
 go_wp2_with fail
 refine HNX.out.mono ?_
 rintro e w1 ⟨rfl,hb1⟩
 have HW1:=hid ((YW.refl H.out.2.1).below hb1)
 clear hb1
 go_wp2_with fail
 refine (HKY.out w1).mono ?_
 rintro e w2 ⟨rfl,hb2⟩
 have HW2:=hid (HW1.out.below hb2)
 obtain ⟨⟨q0,q1,q2,q3,q4,q5⟩,_⟩:=iQ HW2.out.st.xn.rdr.rd
 have hgl:=HW2.out.st.xn.rdr.lt
 clear hb2
 go_wp2_with fail
 refine (bO T HW2.out.st.xn.rdr ⟨#[117,110,105,116]⟩ (by decide)).mono ?_
 have hmt:=H.out.2.2
 have hon1:=aQ T.fin ⟨#[117,110,105,116]⟩ (by decide) HW2.out.st.xn.rdr.inr
 have hct:=eT (l:=l) (s:=⟨s.at_,s.bad,s.nodes+((1:Nat):Int)⟩) (x:=⟨#[117,110,105,116]⟩)
 rw [show (s.nodes+((1:Nat):Int))=s.nodes+1 from rfl] at hon1 hct ⊢
 rw [hmt] at hon1 hct ⊢
 rintro e w3 ⟨rfl,hr3,hs3⟩
 have HW3:=hid (HW2.out.step hs3 hr3 hon1.1 hct)
 have hm1:m+1≤s1.nodes:=by have h1:=hon1.2;simp only at h1;omega
 clear hr3 hs3 hon1 hct hmt q0 q1 q2 q3 q4 q5 hgl
 have hnm:=lA T HW3.out.st.xn.rdr (a:=none) (cc:=0) (had:=[]) (mJ.nil _ _) 5 (by decide)
 rw [show cS l (([]:List ByteArray).length:Nat) 5 s1=s1 from K_ (fun hc=>absurd hc.1 (by decide)),HS.out.1] at hnm
 have HNM:=hid hnm
 clear hnm
 go_wp2_with fail
 refine HNM.out.mono ?_
 rintro e w4 ⟨rfl,hr4,hs4⟩
 have hona:=cT T.fin [] HW3.out.st.xn.rdr.inr
 rw [HS.out.1] at hona
 have HW4:=hid (HW3.out.step hs4 hr4 hona.1 (by have:=jT (l:=l) (s:=s1) [];rwa [HS.out.1] at this))
 have hma:m+1≤a.2.nodes:=by have:=hona.2;omega
 clear hr4 hs4 hona
 go_wp2_with fail
 obtain ⟨U,hU⟩:=nm_ w4.heap.size
 obtain ⟨w5,hw5,hb5,_⟩:=alo_ w4 (.cells #[.string a.1] 9 (0,0))
 have hu5:w5.heap[U]? = some (.cells #[.string a.1] 9 (0,0)):=by rw [←hU,←hw5];exact I_ _ _
 have HX5:Hid (Yn l g A c (nm,pV,.slice B n b) w4 w5 (some ⟨U,0,none⟩) 1 [a.1] a.2 a.2):=hid ⟨Ej hu5 (by omega),HW4.out.st.xn.rdr.step hb5,Same.of_below hb5,.refl,HW4.out.st.xn.rdr.lt⟩
 rw [hw5,hU]
 clear hb5 hu5 hw5 hU
 go_loopg [8] 10 (fun k s8 wr=>∃f V v us s',s8=.slice V us.length v∧Yn l g A c (nm,pV,.slice B n b) w4 wr V v us a.2 s'∧f<k∧f+us.length=9∧(s'.bad=0→us.length≤5)∧fD l f us s'=(us6,s6))
 case atStart=>exact ⟨8,some ⟨U,0,none⟩,1,[a.1],a.2,rfl,HX5.out,by omega,rfl,fun _=>by simp,HS.out.2⟩
 case round=>
  obtain ⟨f,V,v,us,s',rfl,hX,hfk,hfl,h5,hans⟩:=hrel
  obtain ⟨gk,rfl⟩:=pk_ gk 1 (by omega)
  have HX:=hid hX
  have HI:=hid (kT T hX.rdr ⟨#[44]⟩ (by decide))
  obtain ⟨q,hq⟩:=nm_ ((aF l ⟨#[44]⟩ s').1)
  rw [hq] at HI
  cases q with
  | false=>
   have hfin:(us,s')=(us6,s6):=by
    rw [←hans]
    cases f with
    | zero=>rfl
    | succ f=>rw [fD,K_ (by rw [hq];decide),nC hq]
   obtain ⟨rfl,rfl⟩:=Prod.mk.inj hfin
   clear hX hans hq h5 hfin
   go_wp2_with fail
   refine HI.out.mono ?_
   rintro e w6 ⟨rfl,hb6⟩
   have HX6:=hid (HX.out.step (Same.of_below hb6) (HX.out.rdr.step hb6).rd HX.out.rdr.inr .refl)
   clear hb6
   have HW6:=hid (HW4.out.step HX6.out.same HX6.out.rdr.rd HX6.out.rdr.inr HX6.out.cnt)
   have hrs:mX (fun k=>k<b0∨k∈bJ (.slice B n b) qs) w6 (AR us V v):=⟨(HX6.out.rows.row (fun _ h=>h)).more (fun k hk=>.inl (by
    have h0:=HW4.out.st.xn.lo
    rcases hk with hk | hk
    ·omega
    ·exact (HW4.out.st.xn.nodes.lt k hk).2)),(fV _ _ 0).gs,(fV _ _ 0).ex⟩
   have HAD:=hid (lW HW6.out.st.xn of hof (by omega) (fun q hq=>by have:=HW6.out.st.kids q hq;omega) (AR us V v) rfl rfl hrs)
   have hon6:=oW T.fin 8 [a.1] a.2 HW4.out.st.xn.rdr.inr
   rw [HS.out.2] at hon6
   have hm6:m+1≤s'.nodes:=by have:=hon6.2;simp only at this;omega
   clear hrs hon6
   go_wp2_with fail
   refine HAD.out.mono ?_
   rintro e w7 ⟨rfl,B7,b7,qs7,hx7,hm7,hs7,hk7⟩
   have HW7:=hid (HW6.out.add (q0:=AR us V v) rfl hof hx7 hm7 hs7 hk7)
   clear hx7 hm7 hs7 hk7
   have HBD:=hid (lB T hn hon HW7.out.st hm6 (o_ n))
   go_wp2_with fail
   refine HBD.out.mono ?_
   rintro e w8 ⟨rfl,B8,n8,b8,qs8,hY⟩
   have HW8:=hid (HW7.out.body lC hY)
   clear hY
   go_wp2_with fail
   go_end0
   rw [HST.out]
   exact ⟨rfl,B8,n8,b8,qs8,HW8.out.way (fun _=>Kf HW8.out.was hof _)⟩
  | true=>
   have hb':=nT (l:=l) (by decide) hq
   have hu5:=h5 hb'
   obtain ⟨j,rfl⟩:=pk_ f 1 (by omega)
   have hmt2:=eI hq
   obtain ⟨s2,hs2⟩:=nm_ ((aF l ⟨#[44]⟩ s').2)
   have hfull:=qY (l:=l) (had:=us) (most:=5) (s:=s2)
   obtain ⟨t,ht⟩:=nm_ (bG l us (cS l us.length 5 s2))
   rw [fD,M_ hq,hs2] at hans
   simp only [ht] at hans
   rw [hs2] at hmt2
   rw [ht] at hfull
   have hc2:=uS (l:=l) (s:=s') ⟨#[44]⟩
   rw [hmt2] at hc2
   have hct:=(xW (l:=l) (s:=s2) us.length 5).trans (jT (l:=l) us)
   rw [ht] at hct
   have HR:=hid (⟨hmt2,ht,hans,hfull,hc2,hct⟩:_∧_∧_∧_∧_∧_)
   clear hX hans hq h5 hmt2 ht hfull hc2 hct hb' hs2
   go_wp2_with fail
   refine HI.out.mono ?_
   rintro e w6 ⟨rfl,hb6⟩
   have HX6:=hid (HX.out.step (Same.of_below hb6) (HX.out.rdr.step hb6).rd HX.out.rdr.inr .refl)
   clear hb6
   go_wp2_with fail
   refine (bO T HX6.out.rdr ⟨#[44]⟩ (by decide)).mono ?_
   have hon7:=aQ T.fin ⟨#[44]⟩ (by decide) HX6.out.rdr.inr
   rw [HR.out.1] at hon7 ⊢
   rintro e w7 ⟨rfl,hr7,hs7⟩
   have HX7:=hid (HX6.out.step hs7 hr7 hon7.1 HR.out.2.2.2.2.1)
   clear hr7 hs7 hon7
   have hnm:=lA T HX7.out.rdr (cc:=v) (had:=us) HX7.out.rows.strs 5 (by omega)
   rw [HR.out.2.1] at hnm
   have HNM2:=hid hnm
   clear hnm
   go_wp2_with fail
   refine HNM2.out.mono ?_
   rintro e w8 ⟨rfl,hr8,hs8⟩
   have hin8:iY l t.2:=by
    have h1:=mT (l:=l) (us.length:Int) 5 HX7.out.rdr.inr
    have h2:=(cT T.fin us h1.1).1
    rwa [HR.out.2.1] at h2
   have HX8:=hid (HX7.out.step hs8 hr8 hin8 HR.out.2.2.2.2.2)
   clear hr8 hs8 hin8
   go_wp2_with (at_builtin;refine Hid.out ?_)
   refine hid ?_
   refine cL (by rfl) _ _ _ (by rfl) (.string ⟨#[]⟩) 16 underlying37 gM (by rfl) (by decide) (by rfl) HX8.out.rows t.1 #[.string t.1] _ (by rfl) (by rfl) (by simp [Value.oneCell']) (Av.str _ _ _) (by unfold maxLen;omega) (by omega) HX8.out.same.size ?_
   intro g2 cap2 w9 hG9 hS9 hg9
   have HX9:=hid (HX8.out.push hG9 hS9)
   clear hG9 hS9 hg9
   go_wp2_with fail
   go_roundg gk
   case measure=>omega
   case rel=>exact ⟨j,some ⟨g2,0,none⟩,cap2,us++[t.1],t.2,by simp,HX9.out,by omega,by simp;omega,fun hc=>by
    have h1:us.length≠5:=fun he=>HR.out.2.2.2.1 (by omega) hc
    simp
    omega,HR.out.2.2.1⟩
end
section
variable {l : List bQ} {g c b0 : Nat} {A : Option Addr} {nm pV : Value} {m : Int} {nd : RS → Pc × RS}
theorem yK {y:ByteArray} {n more:Nat} {s:RS} (hc:s.nodes=n+more) {o:Nat} (ho:sY y=o) (h:¬n+more+o≤24):24<s.nodes+sY y:=by rw [hc,ho];omega
theorem Qd (T:fZ l) (hl:l.length≤2001) (hn:yJ l g A c b0 nm pV (m+1) nd) (hon:fL l (m+1) nd):yJ l g A c b0 nm pV m (fun s=>dI l (aL l nd) (eE (aE l s.at_)) s):=by
 intro s w B n b qs of more h hb hm hof
 obtain ⟨y,hy⟩:=nm_ (eE (aE l s.at_))
 simp only [hy]
 have hc:=h.cnt hb
 by_cases h1:dK y qS=true
 ·have e:=bF.1 h1
  subst e
  by_cases hf:n+more+1≤24
  ·have hA:dI l (aL l nd) qS s=(.row 0 [] (aL l nd (aF l qS (aU 1 s)).2).1,(aL l nd (aF l qS (aU 1 s)).2).2):=by
    unfold dI
    rw [M_ (by decide),K_ (by decide)]
   rw [hA]
   exact Be T hn hon h hb hm hof hf qS 0 (.inl ⟨rfl,rfl⟩) hy
  ·rw [nE (fun s=>gY) hb (.inl rfl) (yK hc rfl hf),show sY qS=((1:Nat):Int) from rfl]
   exact lX T h hb qS hy 1 (.inl ⟨.inl rfl,rfl⟩) (by omega) _ _
 ·by_cases h2:dK y qH=true
  ·have e:=bF.1 h2
   subst e
   by_cases hf:n+more+1≤24
   ·have hA:dI l (aL l nd) qH s=(.row 1 [] (aL l nd (aF l qH (aU 1 s)).2).1,(aL l nd (aF l qH (aU 1 s)).2).2):=by
     unfold dI
     rw [M_ (by decide),M_ (by decide)]
    rw [hA]
    exact Be T hn hon h hb hm hof hf qH 1 (.inr ⟨rfl,rfl⟩) hy
   ·rw [nE (fun s=>gY) hb (.inr (.inl rfl)) (yK hc rfl hf),show sY qH=((1:Nat):Int) from rfl]
    exact lX T h hb qH hy 1 (.inl ⟨.inr (.inl rfl),rfl⟩) (by omega) _ _
  ·by_cases h3:dK y jP=true
   ·have e:=bF.1 h3
    subst e
    by_cases hf:n+more+1≤24
    ·exact Kg T hn hon h hb hm hof hf jP rfl hy
    ·rw [nE (fun s=>gY) hb (.inr (.inr (.inl rfl))) (yK hc rfl hf),show sY jP=((1:Nat):Int) from rfl]
     exact lX T h hb jP hy 1 (.inl ⟨.inr (.inr (.inl rfl)),rfl⟩) (by omega) _ _
   ·by_cases h4:dK y Bp=true
    ·have e:=bF.1 h4
     subst e
     by_cases hf:n+more+3≤24
     ·exact Uq T hl hn hon h hb hm hof hf Bp rfl hy
     ·rw [nE (fun s=>gY) hb (.inr (.inr (.inr (.inl rfl)))) (yK hc rfl hf),show sY Bp=((3:Nat):Int) from rfl]
      exact lX T h hb Bp hy 3 (.inr ⟨rfl,rfl⟩) (by omega) _ _
    ·by_cases h5:dK y fK=true
     ·have e:=bF.1 h5
      subst e
      by_cases hf:n+more+1≤24
      ·have hA:dI l (aL l nd) fK s=lK l (aF l fK (aU 1 s)).2:=by
        unfold dI
        rw [K_ (by decide),K_ (by decide),K_ (by decide),M_ (by decide)]
       rw [hA]
       exact Gm T hl h hb hof hf fK rfl hy
      ·rw [nE (fun s=>gY) hb (.inr (.inr (.inr (.inr rfl)))) (yK hc rfl hf),show sY fK=((1:Nat):Int) from rfl]
       exact lX T h hb fK hy 1 (.inl ⟨.inr (.inr (.inr rfl)),rfl⟩) (by omega) _ _
     ·have hA:dI l (aL l nd) y s=(.step ⟨#[]⟩ [],bB 11 s):=by
       unfold dI
       rw [K_ (fun hc=>hc.elim h1 h2),K_ h3,K_ h4,K_ h5]
      rw [hA]
      exact Kd T h hb y hy (by simpa using h1) (by simpa using h2) (by simpa using h3) (by simpa using h4) (by simpa using h5) _ _
theorem yL (T:fZ l) (hl:l.length≤2001):∀f:Nat,yJ l g A c b0 nm pV (25 - f) (gK l f)
 | 0=>fun s w B n b qs of more h hb hm hof=>absurd (h.xn.rdr.inr.2.2.2.2 hb) (by omega)
 | f+1=>by
  have h1:=yL T hl f
  have h2:=lN T.fin T.take f
  have e:25 - ((f+1:Nat):Int)+1=25 - f:=by omega
  rw [←e] at h1 h2
  exact Qd T hl h1 h2
end
theorem tD {l} (h:Vd l) (hl:l≠[]):Vd (l.drop (decodeL l).2):=fun x hx=>h x (by rw [bD l hl];simp [hx])
theorem Cx {l} (h:Vd l) (hl:l≠[]):decodeL l≠(65533,1):=h _ (by rw [bD l hl];simp)
theorem uE (l:List UInt8) (k i:Nat):(l.drop k).getD i 0=l.getD (k+i) 0:=by simp [List.getD,List.getElem?_drop]
end Go.Proofs.YtgcfjkfipkfijaaGreatDoor
