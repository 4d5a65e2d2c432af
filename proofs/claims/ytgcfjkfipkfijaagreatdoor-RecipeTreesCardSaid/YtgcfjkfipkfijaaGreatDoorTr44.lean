/- Part 44 of the proof of rtrees_card; no conditions. -/
import Derived.Test.YtgcfjkfipkfijaaGreatDoorTr01
import Derived.Test.YtgcfjkfipkfijaaGreatDoorTr43
set_option maxRecDepth 100000
set_option maxHeartbeats 8000000
namespace Go.Proofs.YtgcfjkfipkfijaaGreatDoor
open Go Go.RowKit Go.Lib _root_.Go.Proofs.Tryz
section
variable {l : List bQ} {g c b0 b : Nat} {A B : Option Addr} {s : RS} {w : World} {nm nv : Value} {ps : List oF}
theorem Uk {ops o a K Q} {E:Prop} {P n xs} (hgd:o.guard=none) (sl x) (ho:o.op=.call { callee:=.builtin .append,args:=#[sl,x],argTypes:=#[23,23] }) (hs:a.eval sl=.slice B n b) (h:aR kE 71 b0 P w B n b xs) (p ty) (hx:a.eval x=.slice (some ⟨w.heap.size,0,none⟩) 1 1) (hn:n≤1000) (hb0:b0≤w.heap.size) (k:∀g cap w',aR kE 71 b0 P w' (some ⟨g,0,none⟩) (n+1) cap (xs++[(p,[.string p.name,.int .i64 p.n,.bool p.scaled])])→Same (Value.slice B n b).ownBlock.toList w w'→b0≤g∧g<w'.heap.size∧((Value.slice B n b).ownBlock=some g∨w.heap.size<g) →
    K (a.put o.dst (.slice (some ⟨g,0,none⟩) (n+1) cap)) w'):if Region.wanted o (yielded ops a.tmps)=true then Oper.wp prog o a (w.alloc (.cells #[.string p.name,.int .i64 p.n,.bool p.scaled] ty)).drew K Q else E:=by
 obtain ⟨i0,hi0,hz0,hz1,hz2⟩:=info_parts Ed
 refine step_append_lies _ hgd sl x _ ho b0 71 i0 _ 3 32 underlying23 hi0 hz0 hz1 hz2 rfl (by omega) (.slice B n b) n (xs.flatMap (·.2)) hs ((h.own.alloc _).drew) ⟨w.heap.size,0,none⟩ 1 1 [.string p.name,.int .i64 p.n,.bool p.scaled] hx rfl ?_ (by simp [Value.oneCell']) (by decide) (by unfold maxLen;omega) (by omega) (by simp;omega) (w.heap.size+1) (by simp) ?_
 ·intro j u hu
  have:=aB (I_ w (.cells #[.string p.name,.int .i64 p.n,.bool p.scaled] ty)) j
  have e:(⟨w.heap.size,0,none⟩:Addr).add j=⟨w.heap.size,j,none⟩:=by unfold Addr.add;split <;> simp_all
  rw [e]
  refine this.trans ?_
  simpa using hu
 ·intro g cap w6 hown hg hat hlt
  have hg':(w.alloc (.cells #[.string p.name,.int .i64 p.n,.bool p.scaled] ty)).grownBy w6 (Value.slice B n b).ownBlock:=⟨hg.os,hg.tape,hg.output,hg.size,hg.block⟩
  have hgb:=aS hown g rfl
  have hs6:Same (Value.slice B n b).ownBlock.toList w w6:=((Same.refl _ w).alloc _).grown hg' (fun k hk=>.inl (by rw [hk];simp))
  exact k g cap w6 (h.push (Av.prm _ _ p) hg' hown hat) hs6 ⟨hgb.1,hgb.2,hat.imp id (fun e=>by omega)⟩
theorem Jx (T:fZ l) (h:XP l g A c b0 w s nm nv B b ps) (h4:ps.length≤4):Calls prog 36 #[.pointer (some ⟨g,0,none⟩)] w (BH l g A c b0 nm nv B b ps (if ps.length=4 then (⟨⟨#[]⟩,0,false⟩,bB 2 s) else yX l (ps.map (·.name)) (bC l fB s)) w):=by
 have H:=hid h
 have hg:=h.rdr.lt
 have hgb:=h.gb
 obtain ⟨⟨q0,q1,q2,q3,q4,q5⟩,_⟩:=iQ h.rdr.rd
 by_cases h40:ps.length=4
 ·have h4b:((ps.length:Int) == 4)=true:=by rw [beq_iff_eq];omega
  rw [M_ h40]
  clear h h40
  go_enter func36,ntmps36
  go_wp2_with fail
  refine (jF H.out.rdr 2).mono ?_
  rintro r w1 ⟨rfl,hr1,hs1⟩
  have H1:=hid (H.out.step hs1 hr1 (eQ 2 (by decide) H.out.rdr.inr).1)
  have HS:=hid hs1
  clear hr1 hs1
  go_wp2_with fail
  go_end0
  exact ⟨rfl,B,b,ps,H1.out,fun hb=>absurd hb (cK (by decide) s),h4,HS.out.mono (fun x hx=>by simp at hx;subst hx;simp),fun k hk=>.inl hk⟩
 ·have h4b:((ps.length:Int) == 4)=false:=by rw [beq_eq_false_iff_ne];omega
  have hl3:ps.length≤3:=by omega
  rw [K_ h40]
  obtain ⟨s1,h1⟩:=nm_ (bC l fB s)
  obtain ⟨a,ha⟩:=nm_ (bG l (ps.map (·.name)) s1)
  obtain ⟨s7,h7⟩:=nm_ (bC l ⟨#[58,61]⟩ a.2)
  obtain ⟨⟨m8,s8⟩,h8⟩:∃x,aF l ⟨#[45]⟩ s7=x:=⟨_,rfl⟩
  have hBK:=h.rows.blk
  have hi1:=(aQ T.fin fB (by decide) h.rdr.inr).1
  rw [h1] at hi1 ⊢
  have HQ:=hid (⟨h1,ha,h7,h8,hi1,hBK⟩:_∧_∧_∧_∧_∧_)
  clear h h40 h1 ha h7 h8 hi1 hBK h4
  go_enter func36,ntmps36
  go_wp2_with fail
  refine (bO T H.out.rdr fB (by decide)).mono ?_
  rw [HQ.out.1]
  rintro r w1 ⟨rfl,hr1,hs1⟩
  have H1:=hj_ (H.out.step hs1 hr1 HQ.out.2.2.2.2.1) hs1
  clear hr1 hs1 q0 q1 q2 q3 q4 q5 hg
  go_wp2_with fail
  go_loopg [2,3] 5 (fun k s2 s3 wr=>∃done rest V v,s2=.slice V done.length v∧s3=.int .i64 done.length∧done++rest=ps∧rest.length<k∧XP l g A c b0 wr s1 nm nv B b ps∧aR aN.str 9 w.heap.size (fun k=>k<w.heap.size) wr V done.length v ((done.map (·.name)).map sE)∧Same [g] w wr)
  case atStart=>exact ⟨[],ps,none,0,rfl,rfl,rfl,by omega,H1.out.1,aR.nil _ _ _ _ _,H1.out.2⟩
  case round=>
   obtain ⟨done,rest,V,v,rfl,rfl,hdr,hrk,hX,hV,hSm⟩:=hrel
   obtain ⟨gk,rfl⟩:=pk_ gk 1 (by omega)
   have HR:=hl_ hdr hX hV hSm
   obtain ⟨⟨q0,q1,q2,q3,q4,q5⟩,_⟩:=iQ hX.rdr.rd
   have hgl:=hX.rdr.lt
   have hrow:=hX.row
   cases rest with
   | nil=>
    obtain rfl:done=ps:=by simpa using hdr
    have hlt:decide ((done.length:Int)<done.length)=false:=by simp
    have HNM:=hid (lA T hX.rdr (cc:=v) (had:=done.map (·.name)) hV.strs 4 (by rw [U_];omega))
    have hmost:cS l (((done.map (·.name)).length:Nat):Int) 4 s1=s1:=by
     unfold cS
     rw [K_ (fun hc=>by have:=hc.1;rw [U_] at this;omega)]
    rw [hmost,HQ.out.2.1,U_] at HNM
    have hin2:iY l a.2:=by have:=(cT T.fin (done.map (·.name)) hX.rdr.inr).1;rwa [HQ.out.2.1] at this
    have HI2:=hid hin2
    clear hdr hX hV hSm hrow hrk hmost hin2
    go_wp2_with fail
    refine HNM.out.mono ?_
    rintro e w2 ⟨rfl,hr2,hs2⟩
    have H2:=hj_ (HR.out.2.1.step hs2 hr2 HI2.out) (HR.out.2.2.2.then_ hs2)
    clear hr2 hs2 q0 q1 q2 q3 q4 q5 hgl
    go_upto_region 9 with fail
    obtain ⟨K,hK⟩:=nm_ w2.heap.size
    obtain ⟨w3,hw3,hb3,_⟩:=alo_ w2 (.cells #[.string a.1,.int .i64 0,.bool false] 71 (0,0))
    have hk3:w3.heap[K]? = some (.cells #[.string a.1,.int .i64 0,.bool false] 71 (0,0)):=by rw [←hK,←hw3];exact I_ _ _
    rw [hw3,hK]
    have hBw:(Value.slice B done.length b).ownBlock≠some K:=fun e=>by have:=HQ.out.2.2.2.2.2 K e;have:=H2.out.2.size;omega
    have HB3:=hid (XB.mk (w0:=w) (p:=⟨a.1,0,false⟩) (H2.out.1.step (Same.of_below hb3) (H2.out.1.rdr.step hb3).rd H2.out.1.rdr.inr) hk3 ⟨hK▸H2.out.2.size,H.out.lo,hBw⟩ (H2.out.2.below_ hb3))
    clear hb3 hk3 hw3 hBw hK H2 HI2 HNM HR
    go_wp2_with fail
    refine (bO T HB3.out.xp.rdr ⟨#[58,61]⟩ (by decide)).mono ?_
    rw [HQ.out.2.2.1]
    rintro e w4 ⟨rfl,hr4,hs4⟩
    have HB4:=hid (HB3.out.step hs4 hr4 (by have:=(aQ T.fin ⟨#[58,61]⟩ (by decide) HB3.out.xp.rdr.inr).1;rwa [HQ.out.2.2.1] at this))
    clear hr4 hs4
    go_wp2_with fail
    refine (kT T HB4.out.xp.rdr ⟨#[45]⟩ (by decide)).mono ?_
    rw [HQ.out.2.2.2.1]
    rintro e w5 ⟨rfl,hb5⟩
    have HB5:=hid (HB4.out.below hb5)
    clear hb5
    go_upto_if 48 with fail
    go_cut [] (fun wx=>XB l g A c b0 w wx s8 nm nv B b done K ⟨a.1,0,false⟩)
    case first=>
     have h8:=HQ.out.2.2.2.1
     cases m8
     ·have h:=nC (l:=l) (x:=⟨#[45]⟩) (s:=s7) (by rw [h8])
      rw [h8] at h
      have HE:=hid h
      clear h h8
      go_wp2_with fail
      go_meet
      exact HE.out▸HB5.out
     ·have h:=eI (l:=l) (x:=⟨#[45]⟩) (s:=s7) (by rw [h8])
      rw [h8] at h
      have HE:=hid h
      clear h h8
      go_wp2_with fail
      refine (bO T HB5.out.xp.rdr ⟨#[45]⟩ (by decide)).mono ?_
      rw [HE.out]
      rintro e w6 ⟨rfl,hr6,hs6⟩
      have HB6:=hid (HB5.out.step hs6 hr6 (by have:=(aQ T.fin ⟨#[45]⟩ (by decide) HB5.out.xp.rdr.inr).1;rwa [HE.out] at this))
      clear hr6 hs6
      go_wp2_with fail
      go_meet
      exact HB6.out
    case rest=>
     have HB6:=hid hcut
     have HNX:=hid (gE hcut.xp.rdr)
     obtain ⟨k,hk⟩:=nm_ (eC l s8)
     rw [hk] at HNX
     have HK:=hid hk
     clear hcut hk HB3 HB4 HB5
     go_wp2_with fail
     refine HNX.out.mono ?_
     rintro e w7 ⟨rfl,hb7⟩
     have HB7:=hid (HB6.out.below hb7)
     clear hb7
     go_upto_region 14 with fail
     obtain ⟨J,hJ⟩:=nm_ w7.heap.size
     obtain ⟨w8,hw8,hb8,_⟩:=alo_ w7 (.cells #[.int .i64 k.kind,.string k.text,.int .i64 k.n,.int .i64 k.at_] 60 (0,0))
     have hk8:w8.heap[J]? = some (.cells #[.int .i64 k.kind,.string k.text,.int .i64 k.n,.int .i64 k.at_] 60 (0,0)):=by rw [←hJ,←hw8];exact I_ _ _
     rw [hw8,hJ]
     have hJ0:K<J:=by have:=aC HB7.out.box;omega
     have hJ1:g<J:=by have:=HB7.out.xp.rdr.lt;omega
     have HB8:=hj_ (HB7.out.below hb8) hk8
     obtain ⟨x0,x1,x2,x3⟩:=lQ hk8
     have hlj:=aC hk8
     clear hb8 hk8 hw8 hJ
     by_cases hk2:k.kind=2
     ·have t1:(k.kind == 2)=true:=D_ hk2
      have t2:(k.kind != 2)=false:=by simpa using hk2
      have htwo:=Gj HK.out hk2
      have hon:=lL T.fin HB8.out.1.xp.rdr.inr (by rw [htwo.2,hk2];decide)
      obtain ⟨n,hn⟩:=nm_ (if m8=true then wrap64 (-k.n) else k.n)
      have hP:=Xu HK.out hk2 m8
      rw [hn] at hP
      obtain ⟨⟨z,s12⟩,h12⟩:∃x,aF l gR (fQ s8)=x:=⟨_,rfl⟩
      have hPP:yX l (done.map (·.name)) s1=(⟨a.1,n,z⟩,bC l ⟨#[59]⟩ s12):=by
       unfold yX
       simp only [HQ.out.2.1,HQ.out.2.2.1,HQ.out.2.2.2.1,hP,h12]
      have HP:=hl_ hPP h12 hn hon.1
      obtain ⟨⟨q0,q1,q2,q3,q4,q5⟩,f1,f2,f4,f5⟩:=iQ HB8.out.1.xp.rdr.rd
      have hadd:IntKind.i64.wrap (s8.at_+1)=s8.at_+1:=by have h1:=HB8.out.1.xp.rdr.inr.1;have h2:=HB8.out.1.xp.rdr.inr.2.1;have h3:=HB8.out.1.xp.rdr.row.1;have h4:=(HB8.out.1.xp.rdr.row.2 [] (by simp)).1;exact IntWalk.i64_in _ (by omega)
      have HB9:=hid (HB8.out.1.step (s':=fQ s8) ((Same.refl [g] w8).setCell (p:=⟨g,1,none⟩) (.inl (by simp)) (.int .i64 (s8.at_+1))) (HB8.out.1.xp.rdr.put 1 _) hon.1)
      have hJg:J≠g:=by omega
      have HJ9:=hid (((Same.refl [g] w8).setCell (p:=⟨g,1,none⟩) (.inl (by simp)) (.int .i64 (s8.at_+1))).heap (by simpa using hJg) HB8.out.2)
      have hk1:w8.cell? ⟨K,1,none⟩=some (.int .i64 0):=(aB HB8.out.1.box 1).trans rfl
      have hf1:=aD HB8.out.1.box 1
      have hKg:K≠g:=by have:=HB8.out.1.far.1;have:=HB8.out.1.far.2.1;omega
      have hgl:=HB8.out.1.xp.rdr.lt
      have hKl:=aC HB8.out.1.box
      clear hk2 htwo hon hn hP h12 hPP
      go_upto_if 69 with fail
      go_cut [] (fun wx=>XB l g A c b0 w wx (fQ s8) nm nv B b done K ⟨a.1,n,false⟩)
      case first=>
       cases m8
       ·have hn:k.n=n:=HP.out.2.2.1
        have HX:=hid (HB9.out.put 1 (.int .i64 k.n) ⟨a.1,n,false⟩ (by rw [hn];rfl))
        clear hn
        go_wp2_with fail
        go_meet
        exact HX.out
       ·have hn:wrap64 (-k.n)=n:=HP.out.2.2.1
        have hx9:=HB9.out.put 1 (.int .i64 k.n) ⟨a.1,k.n,false⟩ rfl
        have HX:=hid (hx9.put 1 (.int .i64 (wrap64 (-k.n))) ⟨a.1,n,false⟩ (by rw [hn];rfl))
        clear hn hx9
        go_wp2_with fail
        go_meet
        exact HX.out
      case rest=>
       have HX:=hid hcut
       clear hcut q0 q1 q2 q3 q4 q5 f1 f2 f4 f5 hadd hk1 hf1 hgl hKl x0 x1 x2 x3 hlj HB9 HJ9 HB8 HB7 HB6 HNX
       go_wp2_with fail
       refine (kT T HX.out.xp.rdr gR (by decide)).mono ?_
       rw [HP.out.2.1]
       rintro e w9 ⟨rfl,hb9⟩
       have HB9:=hid (HX.out.below hb9)
       have HB10:=hid (HB9.out.put 2 (.bool z) ⟨a.1,n,z⟩ rfl)
       have hk2:w9.cell? ⟨K,2,none⟩=some (.bool false):=(aB HB9.out.box 2).trans rfl
       have hf2:=aD HB9.out.box 2
       clear hb9
       go_upto_if 78 with fail
       go_cut [] (fun wx=>XB l g A c b0 w wx s12 nm nv B b done K ⟨a.1,n,z⟩)
       case first=>
        have h8:=HP.out.2.1
        cases z
        ·have h:=nC (l:=l) (x:=gR) (s:=fQ s8) (by rw [h8])
         rw [h8] at h
         have HE:=hid h
         clear h h8
         go_wp2_with fail
         go_meet
         exact HE.out▸HB10.out
        ·have h:=eI (l:=l) (x:=gR) (s:=fQ s8) (by rw [h8])
         rw [h8] at h
         have HE:=hid h
         clear h h8
         go_wp2_with fail
         refine (bO T HB10.out.xp.rdr gR (by decide)).mono ?_
         rw [HE.out]
         rintro e w11 ⟨rfl,hr11,hs11⟩
         have HB11:=hid (HB10.out.step hs11 hr11 (by have:=(aQ T.fin gR (by decide) HB10.out.xp.rdr.inr).1;rwa [HE.out] at this))
         clear hr11 hs11
         go_wp2_with fail
         go_meet
         exact HB11.out
       case rest=>
        have HB12:=hid hcut
        clear hcut hk2 hf2
        go_wp2_with fail
        refine (bO T HB12.out.xp.rdr ⟨#[59]⟩ (by decide)).mono ?_
        rintro e w13 ⟨rfl,hr13,hs13⟩
        have HB13:=hid (HB12.out.step hs13 hr13 (aQ T.fin ⟨#[59]⟩ (by decide) HB12.out.xp.rdr.inr).1)
        obtain ⟨⟨q0,q1,q2,q3,q4,q5⟩,f1,f2,f4,f5⟩:=iQ HB13.out.xp.rdr.rd
        have hgl:=HB13.out.xp.rdr.lt
        have k0:w13.cell? ⟨K,0,none⟩=some (.string a.1):=(aB HB13.out.box 0).trans rfl
        have k1:w13.cell? ⟨K,1,none⟩=some (.int .i64 n):=(aB HB13.out.box 1).trans rfl
        have k2:w13.cell? ⟨K,2,none⟩=some (.bool z):=(aB HB13.out.box 2).trans rfl
        have hKl:=aC HB13.out.box
        clear hr13 hs13 hKg hJg
        go_upto_region 24 with fail
        have hgn:g∉(Value.slice B done.length b).ownBlock.toList:=fun hc=>by have:=(HB13.out.xp.rows.blk g (by simpa using hc)).1;omega
        go_region_law ((refine Uk (by rfl) _ _ (by rfl) (by rfl) HB13.out.xp.rows ⟨a.1,n,z⟩ _ (by rfl) (by omega) HB13.out.xp.lo ?_;intro g2 cap w6 hG hS hg2;obtain ⟨⟨z0,z1,z2,z3,z4,z5⟩,_,_,y4,y5⟩:=iQ (hS.heap hgn HB13.out.xp.rdr.rd);have hl6:=Y_ hgl hS.size))
        all_goals
         have HF:=hj_ (HB13.out.xp.laid hG hS) hg2
         clear hG hS hg2
         go_wp2_with fail
         go_end0
         have hsz:=HB13.out.same.size
         rw [HP.out.1]
         exact ⟨rfl,some ⟨g2,0,none⟩,cap,_,HF.out.1.1,fun _=>rfl,by simp;omega,(HB13.out.same.mono (fun x hx=>by simp at hx;subst hx;simp)).trans HF.out.1.2 (fun x hx=>.inl hx),fun k hk=>by obtain rfl:g2=k:=(by have:some g2=some k:=hk;exact e_ this);exact HF.out.2.2.2.imp id (fun h=>by omega)⟩
     ·have t1:(k.kind == 2)=false:=aW hk2
      have t2:(k.kind != 2)=true:=by simpa using hk2
      have HE:=hid (Uj HQ.out.2.1 HQ.out.2.2.1 HQ.out.2.2.2.1 HK.out hk2)
      clear hk2
      go_wp2_with fail
      refine (jF HB8.out.1.xp.rdr 11).mono ?_
      rintro e w9 ⟨rfl,hr9,hs9⟩
      have HB9:=hid (HB8.out.1.step hs9 hr9 (eQ 11 (by decide) HB8.out.1.xp.rdr.inr).1)
      clear hr9 hs9
      go_wp2_with fail
      go_end0
      exact ⟨rfl,B,b,done,HE.out.1▸HB9.out.xp,fun hb=>absurd (HE.out.1▸hb) HE.out.2,by omega,HB9.out.same.mono (fun x hx=>by simp at hx;subst hx;simp),fun k hk=>.inl hk⟩
   | cons p rest=>
    have hlen:done.length+(rest.length+1)=ps.length:=by rw [←hdr];simp
    have hlt:decide ((done.length:Int)<ps.length)=true:=by rw [decide_eq_true_iff];omega
    have hdl:done.length<ps.length:=by omega
    obtain ⟨ad,rfl,hc0,_⟩:=jR hrow done.length hdl
    have hpn:ps[done.length].name=p.name:=by simp only [←hdr];simp
    rw [hpn] at hc0
    have hd0:(0:Int)≤done.length:=by omega
    have hdz:(done.length:Int)<ps.length:=by omega
    have hlz:=N_ wr _ hc0
    have hcap:=hrow.1
    clear hdr hX hV hSm hrow hpn
    go_wp2_with (at_builtin;refine Hid.out ?_)
    refine hid ?_
    refine cL (by rfl) _ _ _ (by rfl) (.string ⟨#[]⟩) 16 underlying37 gM (by rfl) (by decide) (by rfl) HR.out.2.2.1 p.name #[.string p.name] _ (by rfl) (by rfl) (by simp [Value.oneCell']) (Av.str _ _ _) (by unfold maxLen;omega) (by omega) HR.out.2.2.2.size ?_
    intro g2 cap2 w2 hG2 hS2 hg2
    have hX2:=HR.out.2.1.far hS2 (fun k hk=>by
     have h0:=HR.out.2.2.1.blk k (by simpa using hk)
     have h1:=H.out.rdr.lt
     exact ⟨by omega,fun e=>by have:=HQ.out.2.2.2.2.2 k e;omega⟩)
    have hSm2:Same [g] w w2:=HR.out.2.2.2.trans hS2 (fun x hx=>.inr (HR.out.2.2.1.blk x (by simpa using hx)).1)
    have H2:=hk_ hX2 hG2 hSm2
    clear hG2 hS2 hg2 hX2 hSm2
    go_wp2_with fail
    go_roundg gk
    case measure=>omega
    case rel=>
     exact ⟨done++[p],rest,some ⟨g2,0,none⟩,cap2,by simp,by simp,by rw [←HR.out.1];simp,by simp at hrk;omega,H2.out.1,by rw [f_,f_];have:=H2.out.2.1;rw [show (done++[p]).length=done.length+1 by simp];exact this,H2.out.2.2⟩
end
def bX (js:List Int) (x:Nd):Nd:={ x with kids:=x.kids++js }
theorem Jy (x):bX [] x=x:=by unfold bX;rw [List.append_nil]
theorem Jz (a b x):bX b (bX a x)=bX (a++b) x:=by unfold bX;simp only [p_]
theorem jH (xs:List Nd) (i j:Nat) (f:Nd→Nd):(xs.modify i f)[j]? = if i=j then xs[j]?.map f else xs[j]?:=by
 rw [List.getElem?_modify]
 by_cases h:i=j
 ·rw [M_ h]
  simp only [M_ h]
  rfl
 ·rw [K_ h]
  simp only [K_ h]
  cases xs[j]? <;> rfl
theorem jY {xs ys:List Nd} {i:Nat} (h:i<xs.length) (f):(xs++ys).modify i f=xs.modify i f++ys:=by
 apply List.ext_getElem?
 intro j
 rw [jH,List.getElem?_append,List.getElem?_append,jH,List.length_modify]
 by_cases hj:j<xs.length
 ·rw [M_ hj,M_ hj]
 ·rw [K_ hj,K_ hj,K_ (by omega)]
theorem pJ (xs ys:List Nd) (x:Nd) (f:Nd→Nd):(xs++x::ys).modify xs.length f=xs++f x::ys:=by
 apply List.ext_getElem?
 intro j
 rw [jH,List.getElem?_append,List.getElem?_append]
 by_cases hj:j<xs.length
 ·rw [M_ hj,M_ hj,K_ (by omega)]
 ·rw [K_ hj,K_ hj]
  by_cases he:xs.length=j
  ·subst he;simp
  ·obtain ⟨k,hk⟩:∃k,j - xs.length=k+1:=⟨j - xs.length - 1,by omega⟩
   rw [hk,K_ he]
   simp
theorem Ka (xs:List Nd) (i:Nat) (a b:List Int):(xs.modify i (bX a)).modify i (bX b)=xs.modify i (bX (a++b)):=by
 apply List.ext_getElem?
 intro j
 rw [jH,jH,jH]
 by_cases hj:i=j
 ·simp only [M_ hj,Option.map_map]
  congr 1
  funext x
  exact Jz a b x
 ·simp only [K_ hj]
theorem yH (xs:List Nd) (i:Nat):xs.modify i (bX [])=xs:=by
 apply List.ext_getElem?
 intro j
 rw [jH]
 by_cases hj:i=j
 ·rw [M_ hj];cases xs[j]? <;> simp [Jy]
 ·rw [K_ hj]
structure yI (l:List bQ) (g:Nat) (A:Option Addr) (c b0 more:Nat) (nm pV:Value) (w:World) (s:RS) (B:Option Addr) (n b:Nat) (qs:List NQ):Prop where
 xn:XN l g A c b0 w s nm pV B n b qs
 fit:n+more≤24
 kids:∀q,q∈qs→q.nd.kids.length<n
 cnt:s.bad=0→s.nodes=n+more
structure pK (l:List bQ) (g:Nat) (A:Option Addr) (c b0 more:Nat) (nm pV:Value) (B:Option Addr) (n b:Nat) (qs:List NQ) (of:Nat) (w:World) (s':RS) (w':World) (ks:List Int) (ns:List Nd) (B':Option Addr) (n' b':Nat) (qs':List NQ):Prop where
 st:yI l g A c b0 more nm pV w' s' B' n' b' qs'
 was:qs.length=n
 len:n≤n'
 same:Same (g::bJ (.slice B n b) qs) w w'
 blk:∀k,k∈bJ (.slice B' n' b') qs'→k∈bJ (.slice B n b) qs∨w.heap.size≤k
 nds:s'.bad=0→qs'.map (·.nd)=(qs.map (·.nd)).modify of (bX ks)++ns
def Xv (l:List bQ) (g:Nat) (A:Option Addr) (c b0 more:Nat) (nm pV:Value) (B:Option Addr) (n b:Nat) (qs:List NQ) (of:Nat) (ks:List Int) (ns:List Nd) (s':RS) (w:World) (r:Ending) (w':World):Prop:=
 r=.returned (.tuple #[])∧∃B' n' b' qs',pK l g A c b0 more nm pV B n b qs of w s' w' ks ns B' n' b' qs'
def yJ (l:List bQ) (g:Nat) (A:Option Addr) (c b0:Nat) (nm pV:Value) (m:Int) (nd:RS→Pc × RS):Prop:=
 ∀(s:RS) (w:World) (B:Option Addr) (n b:Nat) (qs:List NQ) (of more:Nat),yI l g A c b0 more nm pV w s B n b qs→s.bad=0→m≤s.nodes→of<n →
  Calls prog 63 #[.pointer (some ⟨g,0,none⟩),.int .i64 of,.int .i64 more] w (Xv l g A c b0 more nm pV B n b qs of [(n:Int)] (cX n (nd s).1) (nd s).2 w)
section
variable {l : List bQ} {g c b0 more of n b n' b' : Nat} {A B B' : Option Addr} {s s' : RS} {w w' wr : World} {nm pV : Value} {qs qs' : List NQ} {ks : List Int} {ns : List Nd} {m : Int} {nd : RS → Pc × RS}
theorem yI.step (h:yI l g A c b0 more nm pV w s B n b qs) (hs:Same [g] w w') (hr:Cv w' g A l.length c s' (nm,pV,.slice B n b)) (hi:iY l s') (hn:s'.bad=0→s.bad=0∧s'.nodes=s.nodes):yI l g A c b0 more nm pV w' s' B n b qs:=
 ⟨h.xn.step hs hr hi,h.fit,h.kids,fun hb=>by rw [(hn hb).2];exact h.cnt (hn hb).1⟩
theorem pK.refl (h:yI l g A c b0 more nm pV w s B n b qs):pK l g A c b0 more nm pV B n b qs of w s w [] [] B n b qs:=
 ⟨h,h.xn.nodes.len,H_ _,Same.refl _ _,fun k hk=>.inl hk,fun _=>by rw [yH,List.append_nil]⟩
theorem pK.step (h:pK l g A c b0 more nm pV B n b qs of w s wr ks ns B' n' b' qs') (hs:Same [g] wr w') (hr:Cv w' g A l.length c s' (nm,pV,.slice B' n' b')) (hi:iY l s') (hn:s'.bad=0→s.bad=0∧s'.nodes=s.nodes):pK l g A c b0 more nm pV B n b qs of w s' w' ks ns B' n' b' qs':=
 ⟨h.st.step hs hr hi hn,h.was,h.len,h.same.then_ (hs.mono (fun x hx=>by simp at hx;subst hx;simp)),h.blk,fun hb=>h.nds (hn hb).1⟩
theorem pK.below (h:pK l g A c b0 more nm pV B n b qs of w s wr ks ns B' n' b' qs') (hb:Below wr.heap.size wr w'):pK l g A c b0 more nm pV B n b qs of w s w' ks ns B' n' b' qs':=
 h.step (Same.of_below hb) (h.st.xn.rdr.step hb).rd h.st.xn.rdr.inr (fun hb=>⟨hb,rfl⟩)
theorem pK.nextOne {s1 s2 w1 w2 B1 B2 n1 b1 n2 b2 qs1 qs2 ps p} (h1:pK l g A c b0 more nm pV B n b qs of w s1 w1 (aV n ps).2 (aV n ps).1 B1 n1 b1 qs1) (hb:s1.bad=0) (hof:of<n) (h2:pK l g A c b0 more nm pV B1 n1 b1 qs1 of w1 s2 w2 [(n1:Int)] (cX n1 p) B2 n2 b2 qs2):pK l g A c b0 more nm pV B n b qs of w s2 w2 (aV n (ps++[p])).2 (aV n (ps++[p])).1 B2 n2 b2 qs2:=by
 have hz:=h1.same.size
 refine ⟨h2.st,h1.was,d_ h1.len h2.len,h1.same.trans h2.same (fun x hx=>?_),fun k hk=>?_,fun hb2=>?_⟩
 ·rcases List.mem_cons.1 hx with rfl | hx
  ·exact .inl (by simp)
  ·exact (h1.blk x hx).imp (fun h=>List.mem_cons_of_mem _ h) id
 ·rcases h2.blk k hk with h | h
  ·exact h1.blk k h
  ·exact .inr (by omega)
 ·have e1:=h1.nds hb
  have hl:=c_ List.length e1
  have hq:=h1.st.xn.nodes.len
  have hw:=h1.was
  have h0:(n1:Int)=n+(aV n ps).1.length:=by simp only [U_,O_,List.length_modify] at hl;omega
  rw [h2.nds hb2,e1,jY (by rw [List.length_modify,U_];omega),Ka,rF,p_,h0]
theorem lB (T:fZ l) (hn:yJ l g A c b0 nm pV m nd) (hon:fL l m nd) (h:yI l g A c b0 more nm pV w s B n b qs) (hm:m≤s.nodes) (hof:of<n) :
  Calls prog 37 #[.pointer (some ⟨g,0,none⟩),.int .i64 of,.int .i64 more] w (Xv l g A c b0 more nm pV B n b qs of (aV n (aL l nd s).1).2 (aV n (aL l nd s).1).1 (aL l nd s).2 w):=by
 obtain ⟨s1,h1⟩:=nm_ (bC l ⟨#[123]⟩ s)
 obtain ⟨⟨pp,s5⟩,h5⟩:∃x,dB l nd 30 [] s1=x:=⟨_,rfl⟩
 have hX:aL l nd s=(pp,bC l ⟨#[125]⟩ s5):=by
  unfold aL
  simp only [h1,h5]
 rw [hX]
 have hi1:=(aQ T.fin ⟨#[123]⟩ (by decide) h.xn.rdr.inr)
 have hc1:=eT (l:=l) (s:=s) (x:=⟨#[123]⟩)
 rw [h1] at hi1 hc1
 have H:=hm_ h h1 h5 hi1 hc1
 clear h h1 h5 hX hi1 hc1
 go_enter func37,ntmps37
 go_wp2_with fail
 refine (bO T H.out.1.xn.rdr ⟨#[123]⟩ (by decide)).mono ?_
 rw [H.out.2.1]
 rintro r w1 ⟨rfl,hr1,hs1⟩
 have H1:=hid ((pK.refl (of:=of) H.out.1).step hs1 hr1 H.out.2.2.2.1.1 H.out.2.2.2.2)
 clear hr1 hs1
 go_wp2_with fail
 go_loopg [] 31 (fun k wr=>∃f ps s' B' n' b' qs',pK l g A c b0 more nm pV B n b qs of w s' wr (aV n ps).2 (aV n ps).1 B' n' b' qs'∧f<k∧(s'.bad=0→30≤s'.nodes+f)∧dB l nd f ps s'=(pp,s5)∧m≤s'.nodes)
 case atStart=>exact ⟨30,[],s1,B,n,b,qs,by rw [dR];exact H1.out,by omega,fun hb=>by have:=H1.out.st.cnt hb;omega,H.out.2.2.1,k_ hm H.out.2.2.2.1.2⟩
 case round=>
  obtain ⟨f,ps,s',B',n',b',qs',hW,hfk,hf30,hans,hmm⟩:=hrel
  obtain ⟨gk,rfl⟩:=pk_ gk 1 (by omega)
  have HW:=hid hW
  obtain ⟨⟨q0,q1,q2,q3,q4,q5⟩,_⟩:=iQ hW.st.xn.rdr.rd
  have hgl:=hW.st.xn.rdr.lt
  by_cases hb:s'.bad=0
  ·have hb1:(s'.bad == 0)=true:=D_ hb
   have hcnt:=hW.st.cnt hb
   have hfit:=hW.st.fit
   have hlen:=hW.len
   have h30:=hf30 hb
   obtain ⟨f,rfl⟩:=pk_ f 1 (by omega)
   have hts:=xV (l:=l) (x:=⟨#[125]⟩) (s:=s') (by decide) (by decide)
   obtain ⟨q,hq⟩:=nm_ (bZ l ⟨#[125]⟩ s')
   rw [dB,hq] at hans
   rw [hq] at hts
   have HI:=hid (kT T hW.st.xn.rdr ⟨#[125]⟩ (by decide))
   rw [hts] at HI
   clear hW hts hq
   cases q with
   | true=>
    rw [K_ (fun hc=>absurd hc.2 (by decide))] at hans
    have HF:=hid hans
    clear hans hb hcnt
    go_wp2_with fail
    refine HI.out.mono ?_
    rintro e w2 ⟨rfl,hb2⟩
    have HW2:=hid (HW.out.below hb2)
    clear hb2
    go_wp2_with fail
    refine (bO T HW2.out.st.xn.rdr ⟨#[125]⟩ (by decide)).mono ?_
    rintro e w3 ⟨rfl,hr3,hs3⟩
    have HW3:=hid (HW2.out.step hs3 hr3 (aQ T.fin ⟨#[125]⟩ (by decide) HW2.out.st.xn.rdr.inr).1 eT)
    clear hr3 hs3
    go_wp2_with fail
    go_end0
    obtain ⟨rfl,rfl⟩:=Prod.mk.inj HF.out
    exact ⟨rfl,B',n',b',qs',HW3.out⟩
   | false=>
    rw [M_ ⟨hb,rfl⟩] at hans
    have HF:=hj_ hans hb
    clear hans hb
    go_wp2_with fail
    refine HI.out.mono ?_
    rintro e w2 ⟨rfl,hb2⟩
    have HW2:=hid (HW.out.below hb2)
    have hon2:=hon s' HW2.out.st.xn.rdr.inr HF.out.2 hmm
    clear hb2
    go_wp2_with fail
    refine (hn s' w2 B' n' b' qs' of more HW2.out.st HF.out.2 hmm (by omega)).mono ?_
    rintro e w3 ⟨rfl,B3,n3,b3,qs3,hY⟩
    have HW3:=hid (HW2.out.nextOne HF.out.2 hof hY)
    clear hY
    go_wp2_with fail
    go_roundg gk
    case measure=>omega
    case rel=>exact ⟨f,ps++[(nd s').1],(nd s').2,B3,n3,b3,qs3,HW3.out,by omega,fun hc=>by have:=hon2.2 hc;omega,HF.out.1,k_ hmm hon2.1.2⟩
  ·have hb1:=aW hb
   have hfin:(ps,s')=(pp,s5):=by
    rw [←hans]
    cases f with
    | zero=>rfl
    | succ f=>rw [dB,K_ (fun hc=>hb hc.1)]
   have HF:=hid hfin
   clear hW hans hfin hb hf30
   go_wp2_with fail
   refine (bO T HW.out.st.xn.rdr ⟨#[125]⟩ (by decide)).mono ?_
   rintro e w3 ⟨rfl,hr3,hs3⟩
   have HW3:=hid (HW.out.step hs3 hr3 (aQ T.fin ⟨#[125]⟩ (by decide) HW.out.st.xn.rdr.inr).1 eT)
   clear hr3 hs3
   go_wp2_with fail
   go_end0
   obtain ⟨rfl,rfl⟩:=Prod.mk.inj HF.out
   exact ⟨rfl,B',n',b',qs',HW3.out⟩
end
end Go.Proofs.YtgcfjkfipkfijaaGreatDoor
