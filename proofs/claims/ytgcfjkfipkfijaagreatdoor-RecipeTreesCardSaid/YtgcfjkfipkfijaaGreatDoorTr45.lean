/- Part 45 of the proof of rtrees_card; no conditions. -/
import Derived.Test.YtgcfjkfipkfijaaGreatDoorTr01
import Derived.Test.YtgcfjkfipkfijaaGreatDoorTr44
set_option maxRecDepth 100000
set_option maxHeartbeats 8000000
namespace Go.Proofs.YtgcfjkfipkfijaaGreatDoor
open Go Go.RowKit Go.Lib _root_.Go.Proofs.Tryz
structure YW (l:List bQ) (g:Nat) (A:Option Addr) (c b0 more:Nat) (nm pV:Value) (B:Option Addr) (n b:Nat) (qs:List NQ) (w:World) (s':RS) (w':World) (X:List Nd) (B':Option Addr) (n' b':Nat) (qs':List NQ):Prop where
 st:yI l g A c b0 more nm pV w' s' B' n' b' qs'
 was:qs.length=n
 len:n≤n'
 same:Same (g::bJ (.slice B n b) qs) w w'
 blk:∀k,k∈bJ (.slice B' n' b') qs'→k∈bJ (.slice B n b) qs∨w.heap.size≤k
 nds:s'.bad=0→qs'.map (·.nd)=X
section
variable {l : List bQ} {g c b0 more of n b n' b' : Nat} {A B B' : Option Addr} {s s' : RS} {w w' wr : World} {nm pV : Value} {qs qs' : List NQ} {X : List Nd} {m : Int} {nd : RS → Pc × RS}
theorem YW.refl (h:yI l g A c b0 more nm pV w s B n b qs):YW l g A c b0 more nm pV B n b qs w s w (qs.map (·.nd)) B n b qs:=⟨h,h.xn.nodes.len,H_ _,Same.refl _ _,fun _ hk=>.inl hk,fun _=>rfl⟩
theorem YW.step (h:YW l g A c b0 more nm pV B n b qs w s wr X B' n' b' qs') (hs:Same [g] wr w') (hr:Cv w' g A l.length c s' (nm,pV,.slice B' n' b')) (hi:iY l s') (hn:s'.bad=0→s.bad=0∧s'.nodes=s.nodes):YW l g A c b0 more nm pV B n b qs w s' w' X B' n' b' qs':=
 ⟨h.st.step hs hr hi hn,h.was,h.len,h.same.then_ (hs.mono (fun x hx=>by simp at hx;subst hx;simp)),h.blk,fun hb=>h.nds (hn hb).1⟩
theorem YW.below (h:YW l g A c b0 more nm pV B n b qs w s wr X B' n' b' qs') (hb:Below wr.heap.size wr w'):YW l g A c b0 more nm pV B n b qs w s w' X B' n' b' qs':=
 h.step (Same.of_below hb) (h.st.xn.rdr.step hb).rd h.st.xn.rdr.inr (fun hb=>⟨hb,rfl⟩)
theorem YW.add {q0:NQ} {B2:Option Addr} {b2:Nat} {qs2:List NQ} (h:YW l g A c b0 (more+1) nm pV B n b qs w s wr X B' n' b' qs') (h0:q0.nd.kids=[]) (hof:of<n') (hx:XN l g A c b0 w' s nm pV B2 (n' + 1) b2 qs2)
  (hm:qs2.map (·.nd)=((qs'++[q0]).map (·.nd)).modify of (fun x=>{ x with kids:=x.kids++[(n':Int)] })) (hs:Same (g::bJ (.slice B' n' b') qs') wr w') (hb:∀k,k∈bJ (.slice B2 (n' + 1) b2) qs2→k∈bJ (.slice B' n' b') qs'∨wr.heap.size≤k) :
  YW l g A c b0 more nm pV B n b qs w s w' ((X++[q0.nd]).modify of (bX [(n':Int)])) B2 (n' + 1) b2 qs2:=by
 have hz:=h.same.size
 have hfit:=h.st.fit
 refine ⟨⟨hx,by omega,fun q hq=>?_,fun hb=>by have:=h.st.cnt hb;omega⟩,h.was,by have:=h.len;omega,h.same.trans hs (fun x hx=>?_),fun k hk=>?_,fun hb=>?_⟩
 ·have hin:q.nd∈qs2.map (·.nd):=List.mem_map_of_mem hq
  rw [hm] at hin
  obtain ⟨i,hi,he⟩:=List.getElem_of_mem hin
  rw [List.getElem_modify] at he
  have hli:i<(qs'++[q0]).length:=by simpa using hi
  rw [List.getElem_map] at he
  have hk:((qs'++[q0])[i]).nd.kids.length<n':=by
   rcases G_ (g_ hli) with h1 | h1
   ·exact h.st.kids _ h1
   ·rw [List.mem_singleton.1 h1,h0]
    simp only [b_]
    omega
  rw [←he]
  split
  ·simp only [O_,List.length_singleton];omega
  ·omega
 ·rcases List.mem_cons.1 hx with rfl | hx
  ·exact .inl (by simp)
  ·exact (h.blk x hx).imp (fun h=>List.mem_cons_of_mem _ h) id
 ·rcases hb k hk with h1 | h1
  ·exact h.blk k h1
  ·exact .inr (by omega)
 ·rw [hm,f_,h.nds hb]
  rfl
theorem YW.body {s2 ks ns B2 n2 b2 qs2} (h:YW l g A c b0 more nm pV B n b qs w s wr X B' n' b' qs') (hbs:s2.bad=0→s.bad=0) (h2:pK l g A c b0 more nm pV B' n' b' qs' of wr s2 w' ks ns B2 n2 b2 qs2) :
  YW l g A c b0 more nm pV B n b qs w s2 w' (X.modify of (bX ks)++ns) B2 n2 b2 qs2:=by
 have hz:=h.same.size
 refine ⟨h2.st,h.was,d_ h.len h2.len,h.same.trans h2.same (fun x hx=>?_),fun k hk=>?_,fun hb=>by rw [h2.nds hb,h.nds (hbs hb)]⟩
 ·rcases List.mem_cons.1 hx with rfl | hx
  ·exact .inl (by simp)
  ·exact (h.blk x hx).imp (fun h=>List.mem_cons_of_mem _ h) id
 ·rcases h2.blk k hk with h1 | h1
  ·exact h.blk k h1
  ·exact .inr (by omega)
theorem YW.way {ks ns} (h:YW l g A c b0 more nm pV B n b qs w s wr X B' n' b' qs') (hX:s.bad=0→X=(qs.map (·.nd)).modify of (bX ks)++ns):pK l g A c b0 more nm pV B n b qs of w s wr ks ns B' n' b' qs':=
 ⟨h.st,h.was,h.len,h.same,h.blk,fun hb=>by rw [h.nds hb,hX hb]⟩
theorem lC (hs:(aL l nd s).2.bad=0):s.bad=0:=Decidable.byContradiction fun h=>h (by rw [gY h] at hs;exact hs)
end
section
variable {l : List bQ} {g c b0 more of n b : Nat} {A B : Option Addr} {s : RS} {w : World} {nm pV : Value} {qs : List NQ} {m : Int} {nd : RS → Pc × RS}
theorem yI.begin (h:yI l g A c b0 more nm pV w s B n b qs) (hb:s.bad=0) (o) (ho:n+more+o≤24):yI l g A c b0 (more+o) nm pV w ⟨s.at_,s.bad,s.nodes+o⟩ B n b qs∧aU o s=⟨s.at_,s.bad,s.nodes+o⟩:=by
 have hc:=h.cnt hb
 obtain ⟨h1,h2,h3,h4,h5⟩:=h.xn.rdr.inr
 refine ⟨⟨⟨⟨h.xn.rdr.rd,h.xn.rdr.row,h1,h2,?_,?_,fun _=>?_⟩,h.xn.nodes,h.xn.gb,h.xn.lo⟩,by omega,h.kids,fun _=>?_⟩,?_⟩
 ·show 0≤s.nodes+o;omega
 ·show s.nodes+o≤27;omega
 ·show s.nodes+o≤24;omega
 ·show s.nodes+(o:Int)=n+((more+o:Nat):Int);omega
 ·unfold aU;rw [K_ (by omega)]
theorem oB {y k} (hb:s.bad=0) (hy:eE (aE l s.at_)=y):(aF l y ⟨s.at_,s.bad,k⟩).1=true:=by
 unfold aF dN
 rw [hb,hy,show dK y y=true from bF.2 rfl]
 rfl
def rQ (k:Int):NQ:=⟨⟨k,[],[],⟨#[]⟩,[],eD⟩,none,0,none,0,none,0,none,0⟩
theorem fV (P w k):mX P w (rQ k):=⟨aO.nil _ _ _ _ _,aO.nil _ _ _ _ _,⟨H_ _,fun M _=>(aO.nil gU P w none 0).2 M (by assumption)⟩⟩
theorem Bd (hq:qs.length=n) (hof:of<n) (k ps):((qs.map (·.nd)++[(rQ k).nd]).modify of (bX [(n:Int)])).modify n (bX (aV ((n+1:Nat):Int) ps).2)++(aV ((n+1:Nat):Int) ps).1=(qs.map (·.nd)).modify of (bX [(n:Int)])++cX n (.row k [] ps):=by
 rw [jY (by rw [U_];omega)]
 have hl:((qs.map (·.nd)).modify of (bX [(n:Int)])).length=n:=by rw [List.length_modify,U_,hq]
 have h1:=pJ ((qs.map (·.nd)).modify of (bX [(n:Int)])) [] (rQ k).nd (bX (aV ((n+1:Nat):Int) ps).2)
 rw [hl] at h1
 rw [h1,cX,p_,show ((n+1:Nat):Int)=(n:Int)+1 by omega]
 rfl
theorem Be (T:fZ l) (hn:yJ l g A c b0 nm pV (m+1) nd) (hon:fL l (m+1) nd) (h:yI l g A c b0 more nm pV w s B n b qs) (hb:s.bad=0) (hm:m≤s.nodes) (hof:of<n) (hfit:n+more+1≤24) (y k) (hyk:y=⟨#[115,101,113]⟩∧k=0∨y=⟨#[112,97,114]⟩∧k=1) (hy:eE (aE l s.at_)=y) :
  Calls prog 63 #[.pointer (some ⟨g,0,none⟩),.int .i64 of,.int .i64 more] w (Xv l g A c b0 more nm pV B n b qs of [(n:Int)] (cX n (.row k [] (aL l nd (aF l y (aU 1 s)).2).1)) (aL l nd (aF l y (aU 1 s)).2).2 w):=by
 obtain ⟨hB,hE⟩:=h.begin hb 1 hfit
 have hE1:aU 1 s=⟨s.at_,s.bad,s.nodes+1⟩:=hE
 rw [hE1]
 have htk:=oB (k:=s.nodes+1) hb hy
 have hmt:=eI htk
 obtain ⟨s1,h1⟩:=nm_ ((aF l y ⟨s.at_,s.bad,s.nodes+1⟩).2)
 rw [h1] at hmt ⊢
 have hnx:eC l s=aE l s.at_:=M_ hb
 have HNX:=hid (gE h.xn.rdr)
 have hts:=fU T s
 have HKY:=hid (fun W=>jV (eC l s) W hts)
 rw [hnx] at HNX
 simp only [hnx,hy] at HKY
 have H:=hk_ h hB hmt
 clear h hB hE hE1 htk hmt h1 hnx hts hy
 rcases hyk with ⟨rfl,rfl⟩ | ⟨rfl,rfl⟩
 ·go_enter func63,ntmps63
  go_wp2_with fail
  refine HNX.out.mono ?_
  rintro e w1 ⟨rfl,hb1⟩
  have HW1:=hid ((YW.refl H.out.2.1).below hb1)
  clear hb1
  go_wp2_with fail
  refine (HKY.out w1).mono ?_
  rintro e w2 ⟨rfl,hb2⟩
  have HW2:=hid (HW1.out.below hb2)
  obtain ⟨⟨q0,q1,q2,q3,q4,q5⟩,_⟩:=iQ HW2.out.st.xn.rdr.rd
  have hgl:=HW2.out.st.xn.rdr.lt
  clear hb2
  go_wp2_with fail
  refine (bO T HW2.out.st.xn.rdr ⟨#[115,101,113]⟩ (by decide)).mono ?_
  have hmt:=H.out.2.2
  have hon1:=aQ T.fin ⟨#[115,101,113]⟩ (by decide) HW2.out.st.xn.rdr.inr
  have hct:=eT (l:=l) (s:=⟨s.at_,s.bad,s.nodes+((1:Nat):Int)⟩) (x:=⟨#[115,101,113]⟩)
  rw [show (s.nodes+((1:Nat):Int))=s.nodes+1 from rfl] at hon1 hct ⊢
  rw [hmt] at hon1 hct ⊢
  rintro e w3 ⟨rfl,hr3,hs3⟩
  have HW3:=hid (HW2.out.step hs3 hr3 hon1.1 hct)
  have hm1:m+1≤s1.nodes:=by have h1:=hon1.2;simp only at h1;omega
  clear hr3 hs3 hon1 hct hmt q0 q1 q2 q3 q4 q5 hgl
  have hAD:=lW HW3.out.st.xn of hof (by omega) (fun q hq=>by have:=HW3.out.st.kids q hq;omega) (rQ 0) rfl rfl (fV _ _ _)
  have HAD:=hid hAD
  clear hAD
  go_wp2_with fail
  refine HAD.out.mono ?_
  rintro e w4 ⟨rfl,B4,b4,qs4,hx4,hm4,hs4,hk4⟩
  have HW4:=hid (HW3.out.add (q0:=rQ 0) rfl hof hx4 hm4 hs4 hk4)
  clear hx4 hm4 hs4 hk4
  have HBD:=hid (lB T hn hon HW4.out.st hm1 (o_ n))
  go_wp2_with fail
  refine HBD.out.mono ?_
  rintro e w5 ⟨rfl,B5,n5,b5,qs5,hY⟩
  have HW5:=hid (HW4.out.body lC hY)
  clear hY
  go_wp2_with fail
  go_end0
  exact ⟨rfl,B5,n5,b5,qs5,HW5.out.way (fun _=>Bd HW5.out.was hof 0 _)⟩
 ·go_enter func63,ntmps63
  go_wp2_with fail
  refine HNX.out.mono ?_
  rintro e w1 ⟨rfl,hb1⟩
  have HW1:=hid ((YW.refl H.out.2.1).below hb1)
  clear hb1
  go_wp2_with fail
  refine (HKY.out w1).mono ?_
  rintro e w2 ⟨rfl,hb2⟩
  have HW2:=hid (HW1.out.below hb2)
  obtain ⟨⟨q0,q1,q2,q3,q4,q5⟩,_⟩:=iQ HW2.out.st.xn.rdr.rd
  have hgl:=HW2.out.st.xn.rdr.lt
  clear hb2
  go_wp2_with fail
  refine (bO T HW2.out.st.xn.rdr ⟨#[112,97,114]⟩ (by decide)).mono ?_
  have hmt:=H.out.2.2
  have hon1:=aQ T.fin ⟨#[112,97,114]⟩ (by decide) HW2.out.st.xn.rdr.inr
  have hct:=eT (l:=l) (s:=⟨s.at_,s.bad,s.nodes+((1:Nat):Int)⟩) (x:=⟨#[112,97,114]⟩)
  rw [show (s.nodes+((1:Nat):Int))=s.nodes+1 from rfl] at hon1 hct ⊢
  rw [hmt] at hon1 hct ⊢
  rintro e w3 ⟨rfl,hr3,hs3⟩
  have HW3:=hid (HW2.out.step hs3 hr3 hon1.1 hct)
  have hm1:m+1≤s1.nodes:=by have h1:=hon1.2;simp only at h1;omega
  clear hr3 hs3 hon1 hct hmt q0 q1 q2 q3 q4 q5 hgl
  have hAD:=lW HW3.out.st.xn of hof (by omega) (fun q hq=>by have:=HW3.out.st.kids q hq;omega) (rQ 1) rfl rfl (fV _ _ _)
  have HAD:=hid hAD
  clear hAD
  go_wp2_with fail
  refine HAD.out.mono ?_
  rintro e w4 ⟨rfl,B4,b4,qs4,hx4,hm4,hs4,hk4⟩
  have HW4:=hid (HW3.out.add (q0:=rQ 1) rfl hof hx4 hm4 hs4 hk4)
  clear hx4 hm4 hs4 hk4
  have HBD:=hid (lB T hn hon HW4.out.st hm1 (o_ n))
  go_wp2_with fail
  refine HBD.out.mono ?_
  rintro e w5 ⟨rfl,B5,n5,b5,qs5,hY⟩
  have HW5:=hid (HW4.out.body lC hY)
  clear hY
  go_wp2_with fail
  go_end0
  exact ⟨rfl,B5,n5,b5,qs5,HW5.out.way (fun _=>Bd HW5.out.was hof 1 _)⟩
end
theorem Ul (l):(decodeL l).2≤4:=by
 rw [decodeL_N]
 rcases decodeN_shape l.length (l.getD 0 0).toNat (l.getD 1 0).toNat (l.getD 2 0).toNat (l.getD 3 0).toNat with ⟨c,e⟩ | ⟨c1,c2,c3,cv,e⟩ | ⟨c1,c2,c3,c4,cv,cs,e⟩ | ⟨c1,c2,c3,c4,c5,cv,cw,e⟩ | e
 all_goals (rw [e];dsimp only;omega)
def Qc (t:bQ):Prop:=t.kind=4→t.text.size≤4
theorem Um (l):Qc (eX l).1:=by
 have h4:=Ul l
 unfold Qc eX
 simp only
 split
 ·split <;> intro h <;> exact absurd h (by simp [cB])
 ·split
  ·split <;> intro h <;> exact absurd h (by simp [cB])
  ·split
   ·unfold mN
    simp only
    split
    ·intro h;exact absurd h (by simp [cB])
    ·split
     ·intro h;exact absurd h (by simp [cB])
     ·split <;> intro h <;> exact absurd h (by simp [cB])
   ·split
    ·intro _
     show (⟨(l.take _).toArray⟩:ByteArray).size≤_
     rw [sH]
     refine d_ (List.length_take_le _ _) ?_
     split <;> omega
    ·intro h;exact absurd h (by simp [cB])
theorem Gk:∀(f:Nat) (l:List UInt8) (a:Int) (out:List bQ),(∀t,t∈out→Qc t)→∀t,t∈(gJ f l a out).1→Qc t
 | 0,_,_,_,_,t,ht=>by simp [gJ] at ht
 | f+1,l,a,out,ho,t,ht=>by
  rw [gJ] at ht
  split at ht
  ·rcases G_ ht with ht | ht
   ·exact ho t ht
   ·simp at ht;subst ht;intro h;exact absurd h (by simp)
  ·simp only at ht
   generalize (if out.length=2000 then (2:Int) else (eX l).2.2)=e at ht
   split at ht
   ·simp at ht
   ·refine Gk f _ _ _ ?_ t ht
    intro t ht
    rcases G_ ht with ht | ht
    ·exact ho t ht
    ·simp at ht;subst ht
     exact Um l
theorem Un (s):∀t,t∈(cI s).1→Qc t:=by
 unfold cI
 split
 ·intro t ht;simp at ht
 ·split
  ·intro t ht;simp at ht
  ·exact Gk _ _ _ _ (fun t ht=>by simp at ht)
def Zn (l:List bQ):Prop:=∀i,Qc (aE l i)
theorem Xw (s):Zn (cI s).1:=fun i=>by
 unfold aE
 split
 ·intro h;exact absurd h (by decide)
 ·rw [S_]
  cases hh:(cI s).1[i.toNat]? with
  | none=>intro h;exact absurd h (by decide)
  | some t=>exact Un s t (List.mem_of_getElem? hh)
section
variable {l : List bQ} {s : RS}
theorem Gl (h:Zn l):(aF l fB s).1=dN l fB s:=by
 have hs:bZ l fB s=false:=by
  refine E_ (fun hc=>?_)
  unfold bZ at hc
  rw [a_,a_,beq_iff_eq,beq_iff_eq,bF] at hc
  have:=h s.at_ hc.2.1
  rw [hc.2.2] at this
  exact absurd this (by decide)
 unfold aF
 rw [hs,Bool.or_false]
 cases dN l fB s <;> rfl
theorem Kb (h:dN l fB s=true):s.bad=0∧bC l fB s=fQ s:=by
 have hb:s.bad=0:=by unfold dN at h;rw [a_,beq_iff_eq] at h;exact h.1
 refine ⟨hb,?_⟩
 unfold bC aF
 rw [h,Bool.true_or]
 rfl
theorem uD {f ps} (h:dN l fB s=false):oO l f ps s=(ps,s):=by
 cases f with
 | zero=>rfl
 | succ f=>rw [oO,K_ (by rw [h];decide)]
theorem Mo {x} (h:s.bad≠0):dN l x s=false:=by unfold dN;rw [aW h,Bool.false_and]
theorem Uo (m):gG s (wC l m s).2:=by
 unfold wC
 simp only
 by_cases h:s.bad=0∧(aE l s.at_).kind≠2
 ·rw [M_ h]
  have hb:=cK (e:=11) (by decide) s
  rw [K_ hb]
  exact fun hc=>absurd hc hb
 ·rw [K_ h]
  by_cases hb:s.bad=0
  ·rw [M_ hb]
   exact fun _=>⟨hb,rfl⟩
  ·rw [K_ hb]
   exact .refl
theorem Up (had):gG s (yX l had s).2:=((((jT _).trans (uS _)).trans jE).trans (Uo _)).trans (jE.trans (uS _))
theorem Kc (ks):([rQ 0].map (·.nd)).modify 0 (bX (aV ((1:Nat):Int) ks).2)++(aV ((1:Nat):Int) ks).1=cX 0 (.row 0 [] ks):=by
 rw [cX,show (0:Int)+1=((1:Nat):Int) from rfl]
 rfl
end
section
variable {l : List bQ} {g c b0 more of n b : Nat} {A B : Option Addr} {s : RS} {w : World} {nm pV : Value} {qs : List NQ} {m : Int} {nd : RS → Pc × RS}
theorem yI.wrong {s' w'} (h:yI l g A c b0 more nm pV w s B n b qs) (hs:Same [g] w w') (hr:Cv w' g A l.length c s' (nm,pV,.slice B n b)) (hi:iY l s') (hb:s'.bad≠0) (ks ns):Xv l g A c b0 more nm pV B n b qs of ks ns s' w (.returned (.tuple #[])) w':=by
 refine ⟨rfl,B,n,b,qs,h.step hs hr hi (fun hc=>absurd hc hb),h.xn.nodes.len,H_ _,hs.mono (fun x hx=>by simp at hx;subst hx;simp),fun _ hk=>.inl hk,fun hc=>absurd hc hb⟩
theorem Kd (T:fZ l) (h:yI l g A c b0 more nm pV w s B n b qs) (hb:s.bad=0) (y) (hy:eE (aE l s.at_)=y) (h1:dK y qS=false) (h2:dK y qH=false) (h3:dK y jP=false) (h4:dK y Bp=false) (h5:dK y fK=false) (ks ns) :
  Calls prog 63 #[.pointer (some ⟨g,0,none⟩),.int .i64 of,.int .i64 more] w (Xv l g A c b0 more nm pV B n b qs of ks ns (bB 11 s) w):=by
 have e1:(y.toList == [115,101,113])=false:=by rw [Lib.toList_data];exact h1
 have t1:(y.toList != [115,101,113])=true:=by rw [bne,e1];rfl
 have e2:(y.toList == [112,97,114])=false:=by rw [Lib.toList_data];exact h2
 have t2:(y.toList != [112,97,114])=true:=by rw [bne,e2];rfl
 have e3:(y.toList == [117,110,105,116])=false:=by rw [Lib.toList_data];exact h3
 have t3:(y.toList != [117,110,105,116])=true:=by rw [bne,e3];rfl
 have e4:(y.toList == [105,102])=false:=by rw [Lib.toList_data];exact h4
 have t4:(y.toList != [105,102])=true:=by rw [bne,e4];rfl
 have e5:(y.toList == [112,104,97,115,101])=false:=by rw [Lib.toList_data];exact h5
 have t5:(y.toList != [112,104,97,115,101])=true:=by rw [bne,e5];rfl
 have hnx:eC l s=aE l s.at_:=M_ hb
 have HNX:=hid (gE h.xn.rdr)
 have hts:=fU T s
 have HKY:=hid (fun W=>jV (eC l s) W hts)
 rw [hnx] at HNX
 simp only [hnx,hy] at HKY
 have H:=hid h
 clear h hnx hts hy h1 h2 h3 h4 h5
 go_enter func63,ntmps63
 go_wp2_with fail
 refine HNX.out.mono ?_
 rintro e w1 ⟨rfl,hb1⟩
 have HB1:=hid hb1
 clear hb1
 go_wp2_with fail
 refine (HKY.out w1).mono ?_
 rintro e w2 ⟨rfl,hb2⟩
 have HB2:=tm_ HB1 hb2
 clear hb2
 go_wp2_with fail
 refine (jF (H.out.xn.rdr.step HB2.out) 11).mono ?_
 rintro e w3 ⟨rfl,hr3,hs3⟩
 have HB3:=hj_ hr3 ((Same.of_below HB2.out).then_ hs3)
 clear hr3 hs3
 go_wp2_with fail
 go_end0
 exact H.out.wrong HB3.out.2 HB3.out.1 (eQ 11 (by decide) H.out.xn.rdr.inr).1 (cK (by decide) s) ks ns
end
section
variable {l : List bQ} {g c b0 more of n b : Nat} {A B : Option Addr} {s : RS} {w : World} {nm pV : Value} {qs : List NQ} {m : Int} {nd : RS → Pc × RS}
theorem lX (T:fZ l) (h:yI l g A c b0 more nm pV w s B n b qs) (hb:s.bad=0) (y) (hy:eE (aE l s.at_)=y) (o) (hyo:(y=⟨#[115,101,113]⟩∨y=⟨#[112,97,114]⟩∨y=⟨#[117,110,105,116]⟩∨y=⟨#[112,104,97,115,101]⟩)∧o=1∨y=⟨#[105,102]⟩∧o=3) (hov:24<n+more+o) (ks ns) :
  Calls prog 63 #[.pointer (some ⟨g,0,none⟩),.int .i64 of,.int .i64 more] w (Xv l g A c b0 more nm pV B n b qs of ks ns ⟨s.at_,2,s.nodes+o⟩ w):=by
 have hc:=h.cnt hb
 have hfit:=h.fit
 have hin:iY l ⟨s.at_,2,s.nodes+o⟩:=by
  obtain ⟨a1,a2,_⟩:=h.xn.rdr.inr
  refine ⟨a1,a2,?_,?_,fun hd=>absurd hd (show ¬(2:Int)=0 by decide)⟩
  ·show 0≤s.nodes+(o:Int);omega
  ·show s.nodes+(o:Int)≤27
   rcases hyo with ⟨_,rfl⟩ | ⟨_,rfl⟩ <;> omega
 have hfl:bB 2 s=⟨s.at_,2,s.nodes⟩:=by unfold bB;rw [M_ hb]
 have hnx:eC l s=aE l s.at_:=M_ hb
 have HNX:=hid (gE h.xn.rdr)
 have hts:=fU T s
 have HKY:=hid (fun W=>jV (eC l s) W hts)
 rw [hnx] at HNX
 simp only [hnx,hy] at HKY
 have H:=hk_ h hin hfl
 clear h hnx hts hy hin hfl hc
 rcases hyo with ⟨rfl | rfl | rfl | rfl,rfl⟩ | ⟨rfl,rfl⟩
 all_goals
  go_enter func63,ntmps63
  go_wp2_with fail
  refine HNX.out.mono ?_
  rintro e w1 ⟨rfl,hb1⟩
  have HB1:=hid hb1
  clear hb1
  go_wp2_with fail
  refine (HKY.out w1).mono ?_
  rintro e w2 ⟨rfl,hb2⟩
  have HB2:=tm_ HB1 hb2
  clear hb2
  obtain ⟨⟨q0,q1,q2,q3,q4,q5⟩,_⟩:=iQ (H.out.1.xn.rdr.step HB2.out).rd
  have hgl:=(H.out.1.xn.rdr.step HB2.out).lt
  go_wp2_with fail
  refine (jF (H.out.1.xn.rdr.step HB2.out) 2).mono ?_
  rintro e w3 ⟨rfl,hr3,hs3⟩
  rw [H.out.2.2] at hr3
  have HB3:=hj_ hr3 ((Same.of_below HB2.out).then_ hs3)
  clear hr3 hs3
  go_wp2_with fail
  go_end0
  refine H.out.1.wrong HB3.out.2 ?_ H.out.2.1 (show ¬(2:Int)=0 by decide) ks ns
  exact HB3.out.1
end
section
variable {l : List bQ} {g c b0 more of n b : Nat} {A B : Option Addr} {s : RS} {w : World} {nm pV : Value} {qs : List NQ}
theorem Gm (T:fZ l) (hl:l.length≤2001) (h:yI l g A c b0 more nm pV w s B n b qs) (hb:s.bad=0) (hof:of<n) (hfit:n+more+1≤24) (y) (hyk:y=⟨#[112,104,97,115,101]⟩) (hy:eE (aE l s.at_)=y) :
  Calls prog 63 #[.pointer (some ⟨g,0,none⟩),.int .i64 of,.int .i64 more] w (Xv l g A c b0 more nm pV B n b qs of [(n:Int)] (cX n (lK l (aF l y (aU 1 s)).2).1) (lK l (aF l y (aU 1 s)).2).2 w):=by
 obtain ⟨hB,hE⟩:=h.begin hb 1 hfit
 have hE1:aU 1 s=⟨s.at_,s.bad,s.nodes+1⟩:=hE
 rw [hE1]
 have htk:=oB (k:=s.nodes+1) hb hy
 have hmt:=eI htk
 obtain ⟨s1,h1⟩:=nm_ ((aF l y ⟨s.at_,s.bad,s.nodes+1⟩).2)
 rw [h1] at hmt ⊢
 have hnx:eC l s=aE l s.at_:=M_ hb
 have HNX:=hid (gE h.xn.rdr)
 have hts:=fU T s
 have HKY:=hid (fun W=>jV (eC l s) W hts)
 rw [hnx] at HNX
 simp only [hnx,hy] at HKY
 have H:=hk_ h hB hmt
 clear h hB hE hE1 htk hmt h1 hnx hts hy
 subst hyk
 go_enter func63,ntmps63
 go_wp2_with fail
 refine HNX.out.mono ?_
 rintro e w1 ⟨rfl,hb1⟩
 have HW1:=hid ((YW.refl H.out.2.1).below hb1)
 clear hb1
 go_wp2_with fail
 refine (HKY.out w1).mono ?_
 rintro e w2 ⟨rfl,hb2⟩
 have HW2:=hid (HW1.out.below hb2)
 obtain ⟨⟨q0,q1,q2,q3,q4,q5⟩,_⟩:=iQ HW2.out.st.xn.rdr.rd
 have hgl:=HW2.out.st.xn.rdr.lt
 clear hb2
 go_wp2_with fail
 refine (bO T HW2.out.st.xn.rdr ⟨#[112,104,97,115,101]⟩ (by decide)).mono ?_
 have hmt:=H.out.2.2
 have hon1:=aQ T.fin ⟨#[112,104,97,115,101]⟩ (by decide) HW2.out.st.xn.rdr.inr
 have hct:=eT (l:=l) (s:=⟨s.at_,s.bad,s.nodes+((1:Nat):Int)⟩) (x:=⟨#[112,104,97,115,101]⟩)
 rw [show (s.nodes+((1:Nat):Int))=s.nodes+1 from rfl] at hon1 hct ⊢
 rw [hmt] at hon1 hct ⊢
 rintro e w3 ⟨rfl,hr3,hs3⟩
 have HW3:=hid (HW2.out.step hs3 hr3 hon1.1 hct)
 clear hr3 hs3 hon1 hct hmt q0 q1 q2 q3 q4 q5 hgl
 obtain ⟨a,ha⟩:=nm_ (bG l [] s1)
 obtain ⟨⟨al,s5⟩,h5⟩:∃x,uR l a.2=x:=⟨_,rfl⟩
 have hst:lK l s1=(.step a.1 al,s5):=by
  have e:lK l s1=(.step (bG l [] s1).1 (uR l (bG l [] s1).2).1,(uR l (bG l [] s1).2).2):=rfl
  rw [e,ha,h5]
 have HST:=hid hst
 have HS:=hj_ ha h5
 clear ha h5 hst
 have hnm:=lA T HW3.out.st.xn.rdr (a:=none) (cc:=0) (had:=[]) (mJ.nil _ _) 1 (by decide)
 rw [show cS l (([]:List ByteArray).length:Nat) 1 s1=s1 from K_ (fun hc=>absurd hc.1 (by decide)),HS.out.1] at hnm
 have HNM:=hid hnm
 clear hnm
 go_wp2_with fail
 refine HNM.out.mono ?_
 rintro e w4 ⟨rfl,hr4,hs4⟩
 have HW4:=hid (HW3.out.step hs4 hr4 (by have:=(cT T.fin [] HW3.out.st.xn.rdr.inr).1;rwa [HS.out.1] at this) (by have:=jT (l:=l) (s:=s1) [];rwa [HS.out.1] at this))
 clear hr4 hs4
 have hag:=Pz T hl HW4.out.st.xn.rdr
 have hon5:iY l (uR l a.2).2:=by
  have h1:=aQ T.fin ⟨#[40]⟩ (by decide) HW4.out.st.xn.rdr.inr
  have h3:=Bq T.fin T.take 8 ((bC l ⟨#[40]⟩ a.2).bad == 0 && !bZ l ⟨#[41]⟩ (bC l ⟨#[40]⟩ a.2)) [] _ h1.1
  have h4:=aQ T.fin ⟨#[41]⟩ (by decide) h3.1
  exact (aQ T.fin ⟨#[59]⟩ (by decide) h4.1).1
 have hct5:=Tq (l:=l) (s:=a.2)
 rw [HS.out.2] at hag hon5 hct5
 have HAG:=hk_ hag hon5 hct5
 clear hag hon5 hct5
 go_wp2_with fail
 refine HAG.out.1.mono ?_
 rintro e w5 ⟨C,cc,rfl,hrow,hr5,hs5⟩
 simp only at hrow hr5
 have HW5:=hid (HW4.out.step hs5 hr5 HAG.out.2.1 HAG.out.2.2)
 have hrs:mX (fun k=>k<b0∨k∈bJ (.slice B n b) qs) w5 ⟨⟨3,[],[],a.1,al,eD⟩,none,0,none,0,C,cc,none,0⟩:=⟨(fV _ _ 0).us,hrow.more (fun k hk=>.inl (by
  have h0:=HW4.out.st.xn.lo
  rcases hk with hk | hk
  ·omega
  ·exact (HW4.out.st.xn.nodes.lt k hk).2)),(fV _ _ 0).ex⟩
 have HAD:=hid (lW HW5.out.st.xn of hof (by omega) (fun q hq=>by have:=HW5.out.st.kids q hq;omega) ⟨⟨3,[],[],a.1,al,eD⟩,none,0,none,0,C,cc,none,0⟩ rfl rfl hrs)
 clear hrow hr5 hs5 hrs
 go_wp2_with fail
 refine HAD.out.mono ?_
 rintro e w6 ⟨rfl,B6,b6,qs6,hx6,hm6,hs6,hk6⟩
 have HW6:=hid (HW5.out.add (q0:=⟨⟨3,[],[],a.1,al,eD⟩,none,0,none,0,C,cc,none,0⟩) rfl hof hx6 hm6 hs6 hk6)
 clear hx6 hm6 hs6 hk6
 go_wp2_with fail
 go_end0
 have hnp:cX (n:Int) (.step a.1 al)=[⟨3,[],[],a.1,al,eD⟩]:=by rw [cX]
 rw [HST.out]
 rw [hnp]
 exact ⟨rfl,B6,n+1,b6,qs6,HW6.out.way (fun _=>by rw [jY (by rw [U_,HW6.out.was];exact hof)])⟩
end
end Go.Proofs.YtgcfjkfipkfijaaGreatDoor
