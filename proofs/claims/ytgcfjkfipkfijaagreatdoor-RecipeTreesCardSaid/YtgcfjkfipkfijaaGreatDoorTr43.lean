/- Part 43 of the proof of rtrees_card; no conditions. -/
import Derived.Test.YtgcfjkfipkfijaaGreatDoorTr01
import Derived.Test.YtgcfjkfipkfijaaGreatDoorTr42
set_option maxRecDepth 100000
set_option maxHeartbeats 8000000
namespace Go.Proofs.YtgcfjkfipkfijaaGreatDoor
open Go Go.RowKit Go.Lib _root_.Go.Proofs.Tryz
theorem Qa {ops o a K Q} {E:Prop} {b0 P w B n b qs} (hgd:o.guard=none) (s x) (ho:o.op=.call { callee:=.builtin .append,args:=#[s,x],argTypes:=#[24,24] }) (hs:a.eval s=.slice B n b) (h:dF b0 P w B n b qs) (q0) (h0:q0.nd.kids=[]) (hk0:q0.kV=.slice none 0 0) (hr:mX (fun k=>P k∨k∈bJ (.slice B n b) qs) w q0) (cs) (hcs:cs.toList=q0.enc) (ty) (hx:a.eval x=.slice (some ⟨w.heap.size,0,none⟩) 1 1) (hn:n≤1000) (hb0:b0≤w.heap.size) (k:∀g cap w',dF b0 P w' (some ⟨g,0,none⟩) (n+1) cap (qs++[q0])→Same (Value.slice B n b).ownBlock.toList w w'→(∀k,k∈bJ (.slice (some ⟨g,0,none⟩) (n+1) cap) (qs++[q0])→k∈bJ (.slice B n b) qs∨w.heap.size≤k) →
    K (a.put o.dst (.slice (some ⟨g,0,none⟩) (n+1) cap)) w'):if Region.wanted o (yielded ops a.tmps)=true then Oper.wp prog o a (w.alloc (.cells cs ty)).drew K Q else E:=by
 obtain ⟨i0,hi0,hz0,hz1,hz2⟩:=info_parts Ln
 refine step_append_lies _ hgd s x _ ho b0 43 i0 _ 9 152 underlying24 hi0 hz0 hz1 hz2 rfl (by omega) (.slice B n b) n (qs.flatMap NQ.enc) hs ((h.own.alloc _).drew) ⟨w.heap.size,0,none⟩ 1 1 q0.enc hx rfl ?_ (by simp [NQ.enc,NQ.kV,Value.oneCell']) (by decide) (by unfold maxLen;omega) (by omega) (by simp;omega) (w.heap.size+1) (by simp) ?_
 ·intro j u hu
  have:=aB (I_ w (.cells cs ty)) j
  have e:(⟨w.heap.size,0,none⟩:Addr).add j=⟨w.heap.size,j,none⟩:=by unfold Addr.add;split <;> simp_all
  rw [e]
  refine this.trans ?_
  rw [←hcs] at hu
  simpa using hu
 ·intro g cap w6 hown hg hat hlt
  obtain ⟨h1,h2,h3⟩:=h.push (ob:=.cells cs ty) h0 hk0 hr ⟨hg.os,hg.tape,hg.output,hg.size,hg.block⟩ hown hat
  exact k g cap w6 h1 h2 h3
theorem Bc {b0 g w w' B n b qs} (h:dF b0 (fun k=>k<b0) w B n b qs) (hs:Same [g] w w') (hg:g<b0):dF b0 (fun k=>k<b0) w' B n b qs:=
 ⟨h.len,dQ h.own hs (fun k hk e=>by simp at hk;have:=(aS h.own k e).1;omega),fun q hq=>dQ (h.kid q hq) hs (fun k hk e=>by simp at hk;have:=(aS (h.kid q hq) k e).1;omega),h.dist,fun q hq=>(h.rest q hq).keep hs (fun k hk=>by simp at hk;subst hk;exact .inl hg)⟩
structure XN (l:List bQ) (g:Nat) (A:Option Addr) (c b0:Nat) (w:World) (s:RS) (nm pV:Value) (B:Option Addr) (n b:Nat) (qs:List NQ):Prop where
 rdr:vO l g A c w s (nm,pV,.slice B n b)
 nodes:dF b0 (fun k=>k<b0) w B n b qs
 gb:g<b0
 lo:b0≤w.heap.size
section
variable {l : List bQ} {g c b0 : Nat} {A : Option Addr} {s s' : RS} {w w' : World} {nm pV : Value} {B : Option Addr} {n b : Nat} {qs : List NQ}
theorem XN.step (h:XN l g A c b0 w s nm pV B n b qs) (hs:Same [g] w w') (hr:Cv w' g A l.length c s' (nm,pV,.slice B n b)) (hi:iY l s'):XN l g A c b0 w' s' nm pV B n b qs:=by
 have hg:=h.gb
 exact ⟨h.rdr.next hr hs (fun k hk=>by simp at hk;omega) hi,Bc h.nodes hs hg,hg,d_ h.lo hs.size⟩
theorem XN.laid {w6 g2 cap q0} (h:XN l g A c b0 w s nm pV B n b qs) (hN:dF b0 (fun k=>k<b0) w6 (some ⟨g2,0,none⟩) (n+1) cap (qs++[q0])) (hS:Same (Value.slice B n b).ownBlock.toList w w6) :
  XN l g A c b0 (w6.setCell ⟨g,5,none⟩ (.slice (some ⟨g2,0,none⟩) (n+1) cap)) s nm pV (some ⟨g2,0,none⟩) (n+1) cap (qs++[q0])∧Same (g::bJ (.slice B n b) qs) w (w6.setCell ⟨g,5,none⟩ (.slice (some ⟨g2,0,none⟩) (n+1) cap)):=by
 have hg:=h.gb
 have hno:∀k,k∈(Value.slice B n b).ownBlock.toList→b0≤k:=fun k hk=>(aS h.nodes.own k (by simpa using hk)).1
 have hgn:g∉(Value.slice B n b).ownBlock.toList:=fun hc=>by have:=hno g hc;omega
 have h6:=hS.heap hgn h.rdr.rd
 have hs:Same [g] w6 (w6.setCell ⟨g,5,none⟩ (.slice (some ⟨g2,0,none⟩) (n+1) cap)):=(Same.refl [g] w6).setCell (.inl (by simp)) _
 refine ⟨⟨⟨aZ h6 5 _,(h.rdr.row.keep hS (fun k hk=>by have:=hno k hk;omega)).keep hs (fun k hk=>by simp at hk;omega),h.rdr.inr⟩,Bc hN hs hg,hg,d_ h.lo (d_ hS.size hs.size)⟩,?_⟩
 exact (hS.mono (fun x hx=>List.mem_cons_of_mem _ (eR.2 (.inl (by simpa using hx))))).then_ (hs.mono (fun x hx=>by simp at hx;subst hx;simp))
theorem XN.kid {w6 gB g6 cap j ob num} (h:XN l g A c b0 w s nm pV (some ⟨gB,0,none⟩) n b qs) (hj:j<qs.length) (hg:(w.alloc ob).grownBy w6 (qs[j].kV).ownBlock) (hown:w6.ownsRow b0 3 1 (.slice (some ⟨g6,0,none⟩) (qs[j].nd.kids.length+1) cap) (qs[j].nd.kids.length+1) (qs[j].nd.kids.map (Value.int .i64 ·)++[.int .i64 num])) (hat:(qs[j].kV).ownBlock=some g6∨g6=w.heap.size+1) :
  XN l g A c b0 (w6.setCell ⟨gB,j*9+1,none⟩ (.slice (some ⟨g6,0,none⟩) (qs[j].nd.kids.length+1) cap)) s nm pV (some ⟨gB,0,none⟩) n b (qs.set j (qs[j].one num g6 cap)) ∧
   Same (bJ (.slice (some ⟨gB,0,none⟩) n b) qs) w (w6.setCell ⟨gB,j*9+1,none⟩ (.slice (some ⟨g6,0,none⟩) (qs[j].nd.kids.length+1) cap)) ∧
   ∀k,k∈bJ (.slice (some ⟨gB,0,none⟩) n b) (qs.set j (qs[j].one num g6 cap))→k∈bJ (.slice (some ⟨gB,0,none⟩) n b) qs∨w.heap.size≤k:=by
 obtain ⟨h1,h2,h3⟩:=h.nodes.kidPush hj hg hown hat
 have hgb:=h.gb
 have hno:∀k,k∈bJ (.slice (some ⟨gB,0,none⟩) n b) qs→b0≤k:=fun k hk=>(h.nodes.lt k hk).1
 refine ⟨⟨⟨h2.heap (fun hc=>by have:=hno g hc;omega) h.rdr.rd,h.rdr.row.keep h2 (fun k hk=>by have:=hno k hk;omega),h.rdr.inr⟩,h1,hgb,d_ h.lo h2.size⟩,h2,h3⟩
theorem Qb {qs:List NQ} {j:Nat} (hj:j<qs.length) (num g6 cap):(qs.set j (qs[j].one num g6 cap)).map (·.nd)=(qs.map (·.nd)).modify j (fun x=>{ x with kids:=x.kids++[num] }):=by
 apply List.ext_getElem?
 intro i
 rw [List.getElem?_map,List.getElem?_set,List.getElem?_modify,List.getElem?_map]
 by_cases hij:j=i
 ·subst hij
  simp [hj,NQ.one]
 ·simp [hij]
theorem Uh {ops:Array Oper} {o:Oper} {a:Act} {K:Act→World→Prop} {Q:Exit→Act→World→Prop} {E:Prop} {v:Value} {ks:List Int} (hgd:o.guard=none) (sl x) (ho:o.op=.call { callee:=.builtin .append,args:=#[sl,x],argTypes:=#[36,36] }) (hs:a.eval sl=v) (h:w.ownsRow b0 3 1 v ks.length (ks.map (Value.int .i64 ·))) (num) (hx:a.eval x=.slice (some ⟨w.heap.size,0,none⟩) 1 1) (hn:ks.length≤1000) (hb0:b0≤w.heap.size) (k:∀g6 cap w6,(w.alloc (.cells #[.int .i64 num] 3)).grownBy w6 v.ownBlock→w6.ownsRow b0 3 1 (.slice (some ⟨g6,0,none⟩) (ks.length+1) cap) (ks.length+1) (ks.map (Value.int .i64 ·)++[.int .i64 num])→(v.ownBlock=some g6∨g6=w.heap.size+1) →
    K (a.put o.dst (.slice (some ⟨g6,0,none⟩) (ks.length+1) cap)) w6):if Region.wanted o (yielded ops a.tmps)=true then Oper.wp prog o a (w.alloc (.cells #[.int .i64 num] 3)).drew K Q else E:=by
 obtain ⟨i0,hi0,hz0,hz1,hz2⟩:=info_parts zV
 refine step_append_lies _ hgd sl x _ ho b0 3 i0 _ 1 8 underlying36 hi0 hz0 hz1 hz2 rfl (by omega) v ks.length (ks.map (Value.int .i64 ·)) hs ((h.alloc _).drew) ⟨w.heap.size,0,none⟩ 1 1 [.int .i64 num] hx (by rfl) ?_ (by simp [Value.oneCell']) (by decide) (by unfold maxLen;omega) (by omega) (by simp;omega) (w.heap.size+1) (by simp) ?_
 ·intro j u hu
  have:=World.news_of_block (cs:=#[.int .i64 num]) (t:=3) (fr:=(0,0)) (I_ w _) j u (by simpa using hu)
  exact this
 ·intro g6 cap w6 hown hg hat hlt
  exact k g6 cap w6 ⟨hg.os,hg.tape,hg.output,hg.size,hg.block⟩ hown hat
theorem lW (h:XN l g A c b0 w s nm pV B n b qs) (of) (hof:of<n) (hn:n≤100) (hkb:∀q,q∈qs→q.nd.kids.length≤100) (q0) (h0:q0.nd.kids=[]) (hk0:q0.kV=.slice none 0 0) (hr:mX (fun k=>k<b0∨k∈bJ (.slice B n b) qs) w q0) :
  Calls prog 93 #[.pointer (some ⟨g,0,none⟩),.int .i64 of,.agg q0.enc.toArray] w fun r w'=>r=.returned (.int .i64 n)∧∃B' b' qs',XN l g A c b0 w' s nm pV B' (n+1) b' qs' ∧
   qs'.map (·.nd)=((qs++[q0]).map (·.nd)).modify of (fun x=>{ x with kids:=x.kids++[(n:Int)] })∧Same (g::bJ (.slice B n b) qs) w w'∧∀k,k∈bJ (.slice B' (n+1) b') qs'→k∈bJ (.slice B n b) qs∨w.heap.size≤k:=by
 obtain ⟨⟨kind,kids,us,nn,al,⟨eo,en,enm,ek⟩⟩,kA,kc,uA,uc,gA,gc,eA,ec⟩:=q0
 have hkids:kids=[]:=h0
 subst hkids
 obtain ⟨rfl,rfl⟩:kA=none∧kc=0:=by have:Value.slice kA 0 kc=.slice none 0 0:=hk0;simpa using this
 obtain ⟨w1,hw1,hb1,_⟩:=alo_ w (.cells #[.int .i64 kind,.slice none 0 0,.slice uA us.length uc,.string nn,.slice gA al.length gc,.int .i64 eo,.int .i64 en,.string enm,.slice eA ek.length ec] 43)
 have hx1:w1.heap[w.heap.size]? = some (.cells #[.int .i64 kind,.slice none 0 0,.slice uA us.length uc,.string nn,.slice gA al.length gc,.int .i64 eo,.int .i64 en,.string enm,.slice eA ek.length ec] 43 (0,0)):=hw1▸I_ _ _
 have h1:=h.step (Same.of_below hb1) (h.rdr.step hb1).rd h.rdr.inr
 have H1:=hm_ h1 hb1 hx1 (hr.keep (M:=[]) (Same.of_below hb1) (fun _ hk=>by simp at hk)) h
 have HW1:=hid hw1
 obtain ⟨⟨q0,q1,q2,q3,q4,q5⟩,_,_,f4,f5⟩:=iQ h1.rdr.rd
 have hg1:=h1.rdr.lt
 obtain ⟨c0,c1,c2,c3,c4,c5,c6,c7,c8⟩:=nV hx1
 have hlx:=aC hx1
 have hgw:g<w.heap.size:=h.rdr.lt
 clear h h1 hb1 hx1 hw1 hr h0 hk0
 simp only [NQ.enc,NQ.kV,Ex.op,Ex.n,Ex.name,Ex.kids,b_]
 go_enter func93,ntmps93
 go_upto_region 1 with fail
 rw [HW1.out]
 go_upto_region 2 with fail
 go_cut [] (fun wx=>∃g2 cap,XN l g A c b0 wx s nm pV (some ⟨g2,0,none⟩) (n+1) cap (qs++[⟨⟨kind,[],us,nn,al,.mk eo en enm ek⟩,none,0,uA,uc,gA,gc,eA,ec⟩])∧Same (g::bJ (.slice B n b) qs) w1 wx∧∀k,k∈bJ (.slice (some ⟨g2,0,none⟩) (n+1) cap) (qs++[⟨⟨kind,[],us,nn,al,.mk eo en enm ek⟩,none,0,uA,uc,gA,gc,eA,ec⟩])→k∈bJ (.slice B n b) qs∨w1.heap.size≤k)
 case first=>
  have hgn:g∉(Value.slice B n b).ownBlock.toList:=fun hc=>by have:=(aS H1.out.1.nodes.own g (by simpa using hc)).1;have:=H1.out.1.gb;omega
  go_region_law ((refine Qa (by rfl) _ _ (by rfl) (by rfl) H1.out.1.nodes ⟨⟨kind,[],us,nn,al,.mk eo en enm ek⟩,none,0,uA,uc,gA,gc,eA,ec⟩ rfl rfl H1.out.2.2.2.1 #[.int .i64 kind,.slice none 0 0,.slice uA us.length uc,.string nn,.slice gA al.length gc,.int .i64 eo,.int .i64 en,.string enm,.slice eA ek.length ec] (by rfl) _ (by rfl) (by omega) H1.out.1.lo ?_;intro g2 cap w6 hN hS hm;obtain ⟨⟨z0,z1,z2,z3,z4,z5⟩,_,_,y4,y5⟩:=iQ (hS.heap hgn H1.out.1.rdr.rd);have hl6:=Y_ hg1 hS.size))
  all_goals
   go_wp2_with fail
   go_meet
   have hL:=H1.out.1.laid hN hS
   exact ⟨g2,cap,hL.1,hL.2,hm⟩
 case rest=>
  obtain ⟨g2,cap2,hN2,hS2,hm2⟩:=hcut
  obtain ⟨QS,hQS⟩:=nm_ (qs++[⟨⟨kind,[],us,nn,al,.mk eo en enm ek⟩,none,0,uA,uc,gA,gc,eA,ec⟩])
  rw [hQS] at hN2 hm2
  have hql:=hN2.nodes.len
  have hofq:of<QS.length:=by omega
  obtain ⟨x,hx⟩:=nm_ (QS[of])
  have hxm:x∈QS:=hx▸g_ hofq
  have hcell:=hN2.nodes.own.cells (g:=g2) rfl (of*9+1) x.kV (by rw [cQ (f:=NQ.enc) (n:=9) (fun _=>rfl) QS of 1 hofq (by omega),hx];rfl)
  have hfr:=hN2.nodes.own.frozenAt (g:=g2) (of*9+1)
  have hkl:x.nd.kids.length≤100:=by
   rw [←hQS] at hxm
   rcases G_ hxm with hq | hq
   ·exact hkb x hq
   ·simp at hq;subst hq;exact h_ _
  have hown:=hN2.nodes.kid x hxm
  have hne:g2∉x.kV.ownBlock.toList:=fun hc=>kW hN2.nodes.dist x hxm g2 (by simpa using hc) rfl
  have hgne:g∉x.kV.ownBlock.toList:=fun hc=>by have:=(aS hown g (by simpa using hc)).1;have:=hN2.gb;omega
  obtain ⟨⟨q0,q1,q2,q3,q4,q5⟩,_,_,f4,f5⟩:=iQ hN2.rdr.rd
  have hg2l:=hN2.rdr.lt
  simp only [Addr.add,Nat.zero_add,K_ (show ¬of*9+1=0 by omega)] at hcell
  have hlg2:=N_ _ _ hcell
  obtain ⟨xA,xc,hkv⟩:∃xA xc,x.kV=.slice xA x.nd.kids.length xc:=⟨_,_,rfl⟩
  have hofz:(of:Int)<(n:Int)+1:=by omega
  have hof0:(0:Int)≤of:=by omega
  have hnc:=(hN2.nodes.own.1)
  rw [hkv] at hown hne hgne hcell
  have H2:=hid (⟨hN2,hS2,hm2,hQS,hx,hown,hkv,hkl⟩:_∧_∧_∧_∧_∧_∧_∧_)
  have HKE:=hj_ hofq hql
  clear c0 c1 c2 c3 c4 c5 c6 c7 c8 hlx hg1 hN2 hS2 hm2 hQS hown hkv hx hxm hql
  obtain ⟨kl,hkl'⟩:=nm_ x.nd.kids.length
  rw [hkl'] at hcell hkl
  have HKL:=hid hkl'
  have hownk:=H2.out.2.2.2.2.2.1
  rw [hkl'] at hne hgne
  clear hkl' hownk
  go_upto_region 3 with fail
  go_cut [] (fun wx=>∃b' qs',XN l g A c b0 wx s nm pV (some ⟨g2,0,none⟩) (n+1) b' qs'∧qs'.map (·.nd)=(QS.map (·.nd)).modify of (fun x=>{ x with kids:=x.kids++[(n:Int)] })∧Same (g::bJ (.slice B n b) qs) w wx∧∀k,k∈bJ (.slice (some ⟨g2,0,none⟩) (n+1) b') qs'→k∈bJ (.slice B n b) qs∨w.heap.size≤k)
  case first=>
   go_region_law ((refine Uh (v:=.slice xA kl xc) (ks:=x.nd.kids) (by rfl) _ _ (by rfl) (by rfl) (by have:=H2.out.2.2.2.2.2.1;rw [HKL.out] at this ⊢;exact this) (n:Int) (by rfl) (by rw [HKL.out];omega) H2.out.1.lo ?_;intro g6 cap6 w6 hgrow hown6 hat;rw [HKL.out] at hown6 ⊢;have hS6:Same (Value.slice xA kl xc).ownBlock.toList _ w6:=((Same.refl _ _).alloc _).grown hgrow (fun k hk=>.inl (by rw [hk];simp));have hc6:=hS6.cell (p:=⟨g2,of*9+1,none⟩) hne hcell;have hf6:=(World.frozen?_of_block (a:=⟨g2,of*9+1,none⟩) (hS6.block g2 hlg2 hne)).trans hfr;have hl6:=N_ w6 _ hc6;obtain ⟨⟨z0,z1,z2,z3,z4,z5⟩,_⟩:=iQ (hS6.heap hgne H2.out.1.rdr.rd);have hl7:=Y_ hg2l hS6.size))
   all_goals
    go_wp2_with fail
    go_meet
    have hq:=H2.out.2.2.2.2.1
    have hv:=H2.out.2.2.2.2.2.2.1
    have hkid:=H2.out.1.kid (j:=of) (num:=(n:Int)) (g6:=g6) (cap:=cap6) (ob:=.cells #[.int .i64 n] 3) HKE.out.1 (by rw [hq,hv,HKL.out];exact hgrow) (by rw [hq,HKL.out];exact hown6) (by rw [hq,hv,HKL.out];exact hat)
    have hmd:=Qb HKE.out.1 (n:Int) g6 cap6
    simp only [hq,HKL.out] at hkid hmd
    have hb1:=H1.out.2.1
    have hz1:=hb1.size
    refine ⟨cap2,_,hkid.1,hmd,?_,fun k hk=>?_⟩
    ·refine ((Same.of_below hb1).then_ H2.out.2.1).trans hkid.2.1 (fun x hx=>?_)
     rcases H2.out.2.2.1 x hx with h | h
     ·exact .inl (List.mem_cons_of_mem _ h)
     ·exact .inr (by omega)
    ·have hz2:=H2.out.2.1.size
     rcases hkid.2.2 k hk with h | h
     ·exact (H2.out.2.2.1 k h).imp id (fun h=>by omega)
     ·exact .inr (by omega)
  case rest=>
   obtain ⟨b',qs',hN,hmd,hS,hm⟩:=hcut
   rw [←H2.out.2.2.2.1] at hmd
   have HF:=hl_ hN hmd hS hm
   clear hN hmd hS hm
   go_wp2_with fail
   go_ret
   exact ⟨rfl,some ⟨g2,0,none⟩,b',qs',HF.out.1,by rw [HF.out.2.1,f_];rfl,HF.out.2.2.1,HF.out.2.2.2⟩
end
structure XP (l:List bQ) (g:Nat) (A:Option Addr) (c b0:Nat) (w:World) (s:RS) (nm nv:Value) (B:Option Addr) (b:Nat) (ps:List oF):Prop where
 rdr:vO l g A c w s (nm,.slice B ps.length b,nv)
 rows:aR kE 71 b0 (fun k=>k<b0) w B ps.length b (ps.map yZ)
 gb:g<b0
 lo:b0≤w.heap.size
section
variable {l : List bQ} {g c b0 b K : Nat} {A B : Option Addr} {s s' : RS} {w w' w0 : World} {nm nv : Value} {ps : List oF} {p : oF}
theorem XP.far {M} (h:XP l g A c b0 w s nm nv B b ps) (hs:Same M w w') (hM:∀k,k∈M→g<k∧(Value.slice B ps.length b).ownBlock≠some k):XP l g A c b0 w' s nm nv B b ps:=
 ⟨h.rdr.next (hs.heap (fun hc=>by have:=(hM g hc).1;omega) h.rdr.rd) hs (fun k hk=>by have:=(hM k hk).1;omega) h.rdr.inr,h.rows.keepP hs (fun k hk=>(hM k hk).2),h.gb,d_ h.lo hs.size⟩
theorem XP.step (h:XP l g A c b0 w s nm nv B b ps) (hs:Same [g] w w') (hr:Cv w' g A l.length c s' (nm,.slice B ps.length b,nv)) (hi:iY l s'):XP l g A c b0 w' s' nm nv B b ps:=by
 have hg:=h.gb
 exact ⟨h.rdr.next hr hs (fun k hk=>by simp at hk;omega) hi,h.rows.keepP hs (fun k hk e=>by simp at hk;have:=(h.rows.blk k e).1;omega),hg,d_ h.lo hs.size⟩
theorem XP.row (h:XP l g A c b0 w s nm nv B b ps):aO kE (fun k=>k<b0) w B b ps:=by
 have h1:=h.rows.out (fun _ h=>h) (fun q hq=>by obtain ⟨p,_,rfl⟩:=List.mem_map.1 hq;rfl)
 rwa [List.map_map,show ((fun q:oF × List Value=>q.1) ∘ yZ)=id from rfl,List.map_id] at h1
theorem XP.laid {w6 g2 cap} (h:XP l g A c b0 w s nm nv B b ps) (hG:aR kE 71 b0 (fun k=>k<b0) w6 (some ⟨g2,0,none⟩) (ps.length+1) cap (ps.map yZ++[(p,[.string p.name,.int .i64 p.n,.bool p.scaled])])) (hS:Same (Value.slice B ps.length b).ownBlock.toList w w6) :
  XP l g A c b0 (w6.setCell ⟨g,4,none⟩ (.slice (some ⟨g2,0,none⟩) (ps.length+1) cap)) s nm nv (some ⟨g2,0,none⟩) cap (ps++[p])∧Same (g::(Value.slice B ps.length b).ownBlock.toList) w (w6.setCell ⟨g,4,none⟩ (.slice (some ⟨g2,0,none⟩) (ps.length+1) cap)):=by
 have hg:=h.gb
 have hno:∀k,k∈(Value.slice B ps.length b).ownBlock.toList→b0≤k:=fun k hk=>(h.rows.blk k (by simpa using hk)).1
 have hgn:g∉(Value.slice B ps.length b).ownBlock.toList:=fun hc=>by have:=hno g hc;omega
 have h6:=hS.heap hgn h.rdr.rd
 have hs:Same [g] w6 (w6.setCell ⟨g,4,none⟩ (.slice (some ⟨g2,0,none⟩) (ps.length+1) cap)):=(Same.refl [g] w6).setCell (.inl (by simp)) _
 have hl:(ps++[p]).length=ps.length+1:=by simp
 refine ⟨⟨⟨?_,(h.rdr.row.keep hS (fun k hk=>by have:=hno k hk;omega)).keep hs (fun k hk=>by simp at hk;omega),h.rdr.inr⟩,?_,hg,d_ h.lo (d_ hS.size hs.size)⟩,?_⟩
 ·rw [hl];exact aZ h6 4 _
 ·rw [hl,f_]
  have hG':aR kE 71 b0 (fun k=>k<b0) w6 (some ⟨g2,0,none⟩) (ps.length+1) cap ((ps++[p]).map yZ):=by rw [f_];exact hG
  have:=hG'.keepP hs (fun k hk e=>by simp at hk;have:=(hG.blk k e).1;omega)
  rwa [f_] at this
 ·exact (hS.mono (fun x hx=>List.mem_cons_of_mem _ hx)).then_ (hs.mono (fun x hx=>by simp at hx;subst hx;simp))
structure XB (l:List bQ) (g:Nat) (A:Option Addr) (c b0:Nat) (w0 w:World) (s:RS) (nm nv:Value) (B:Option Addr) (b:Nat) (ps:List oF) (K:Nat) (p:oF):Prop where
 xp:XP l g A c b0 w s nm nv B b ps
 box:w.heap[K]? = some (.cells #[.string p.name,.int .i64 p.n,.bool p.scaled] 71 (0,0))
 far:w0.heap.size≤K∧b0≤w0.heap.size∧(Value.slice B ps.length b).ownBlock≠some K
 same:Same [g] w0 w
theorem XB.step (h:XB l g A c b0 w0 w s nm nv B b ps K p) (hs:Same [g] w w') (hr:Cv w' g A l.length c s' (nm,.slice B ps.length b,nv)) (hi:iY l s'):XB l g A c b0 w0 w' s' nm nv B b ps K p:=by
 have hg:=h.xp.gb
 have hf:=h.far
 exact ⟨h.xp.step hs hr hi,hs.heap (by simp;omega) h.box,hf,h.same.then_ hs⟩
theorem XB.below (h:XB l g A c b0 w0 w s nm nv B b ps K p) (hb:Below w.heap.size w w'):XB l g A c b0 w0 w' s nm nv B b ps K p:=h.step (Same.of_below hb) (h.xp.rdr.step hb).rd h.xp.rdr.inr
theorem XB.put (h:XB l g A c b0 w0 w s nm nv B b ps K p) (i x q) (hx:(#[.string p.name,.int .i64 p.n,.bool p.scaled]:Array Value).setIfInBounds i x=#[.string q.name,.int .i64 q.n,.bool q.scaled]):XB l g A c b0 w0 (w.setCell ⟨K,i,none⟩ x) s nm nv B b ps K q:=by
 have hs:Same [K] w (w.setCell ⟨K,i,none⟩ x):=(Same.refl [K] w).setCell (.inl (by simp)) _
 have hg:=h.xp.gb
 have hf:=h.far
 exact ⟨h.xp.far hs (fun k hk=>by simp at hk;subst hk;exact ⟨by omega,hf.2.2⟩),hx▸aZ h.box i x,hf,h.same.setCell (p:=⟨K,i,none⟩) (.inr hf.1) x⟩
def BH (l:List bQ) (g:Nat) (A:Option Addr) (c b0:Nat) (nm nv:Value) (B:Option Addr) (b:Nat) (ps:List oF) (x:oF × RS) (w:World) (r:Ending) (w':World):Prop:=
 r=.returned (.tuple #[])∧∃B' b' qs,XP l g A c b0 w' x.2 nm nv B' b' qs∧(x.2.bad=0→qs=ps++[x.1])∧qs.length≤4∧Same (g::(Value.slice B ps.length b).ownBlock.toList) w w'∧∀k,(Value.slice B' qs.length b').ownBlock=some k→(Value.slice B ps.length b).ownBlock=some k∨w.heap.size≤k
theorem Gj {k} (h:eC l s=k) (h2:k.kind=2):s.bad=0∧aE l s.at_=k:=by
 unfold eC at h
 by_cases hb:s.bad=0
 ·rw [M_ hb] at h;exact ⟨hb,h⟩
 ·rw [K_ hb] at h;rw [←h] at h2;exact absurd h2 (by decide)
theorem Ui {k} (h:eC l s=k) (h2:k.kind≠2) (m):(wC l m s).2=bB 11 s∧(bB 11 s).bad≠0:=by
 have hb:=cK (e:=11) (by decide) s
 have hd:(if s.bad=0∧(aE l s.at_).kind≠2 then bB 11 s else s)=bB 11 s:=by
  unfold eC at h
  by_cases hb:s.bad=0
  ·rw [M_ hb] at h
   rw [M_ ⟨hb,by rw [h];exact h2⟩]
  ·rw [K_ (fun hc=>hb hc.1),Aq hb]
 refine ⟨?_,hb⟩
 unfold wC
 simp only [hd]
 rw [K_ hb]
theorem Xu {k} (h:eC l s=k) (h2:k.kind=2) (m):wC l m s=(if m=true then wrap64 (-k.n) else k.n,fQ s):=by
 obtain ⟨hb,ht⟩:=Gj h h2
 unfold wC
 rw [ht]
 have hd:(if s.bad=0∧k.kind≠2 then bB 11 s else s)=s:=K_ (fun hc=>hc.2 h2)
 simp only [hd]
 rw [M_ hb,ht]
theorem Uj {had a s7 c8 k} (ha:bG l had s=a) (h7:bC l ⟨#[58,61]⟩ a.2=s7) (h8:aF l ⟨#[45]⟩ s7=c8) (h:eC l c8.2=k) (h2:k.kind≠2):(yX l had s).2=bB 11 c8.2∧(bB 11 c8.2).bad≠0:=by
 obtain ⟨h3,h4⟩:=Ui h h2 c8.1
 refine ⟨?_,h4⟩
 unfold yX
 simp only [ha,h7,h8]
 rw [h3,fT h4]
 exact nD h4
end
end Go.Proofs.YtgcfjkfipkfijaaGreatDoor
