/- Part 21 of the proof of rtrees_card; no conditions. -/
import Derived.Test.YtgcfjkfipkfijaaGreatDoorTr01
import Derived.Test.YtgcfjkfipkfijaaGreatDoorTr20
import Derived.Test.YtgcfjkfipkfijaaGreatDoorTr04
import Derived.Deep.DrawnRows
import Derived.ChangeAlike
import Derived.RegionTactic
import Derived.Deep.DeepCutAuto
import Derived.Deep.CutBlock
set_option maxRecDepth 100000
set_option maxHeartbeats 4000000
namespace Go.Proofs.YtgcfjkfipkfijaaGreatDoor
open Go Go.RowKit Go.Lib _root_.Go.Proofs.Tryz
attribute [local go_sem ↓] Go.wp_at_zero Go.wp_at_succ
theorem tV {f l a out} (hl:l≠[]) (ho:out.length≠2000) (he:(eX l).2.2=0) :
  gJ (f+1) l a out=gJ f (skip (l.drop (eX l).2.1.toNat) (a+(aI (l.take (eX l).2.1.toNat)).length)).1 (skip (l.drop (eX l).2.1.toNat) (a+(aI (l.take (eX l).2.1.toNat)).length)).2 (out++[{ (eX l).1 with at_:=a }]):=by
 simp only [gJ,K_ hl,K_ ho,he,ne_eq,not_true_eq_false,if_false]
theorem wZ {f l a out} (hl:l≠[]) (ho:out.length≠2000) (he:(eX l).2.2≠0):gJ (f+1) l a out=([],(eX l).2.2,a):=by
 simp only [gJ,K_ hl,K_ ho];rw [M_ he]
theorem tW {f l a out} (hl:l≠[]) (ho:out.length=2000):gJ (f+1) l a out=([],2,a):=by
 simp only [gJ,K_ hl,M_ ho];rw [M_ (by decide)]
theorem xB {f a out}:gJ (f+1) [] a out=(out++[⟨0,⟨#[]⟩,0,a⟩],0,0):=by
 simp only [gJ,if_true]
theorem Su:(Tryz.prog.info? 60).map (fun i=>(i.zero,i.size,i.bytes))=some (some (.agg #[.int .i64 0,.string ⟨#[]⟩,.int .i64 0,.int .i64 0]),4,40):=by kernel_rfl
def jM (s:ByteArray) (w:World) (e:Ending) (w':World):Prop:=
 ∃A c,e=.returned (.tuple #[.slice A (cI s).1.length c,.int .i64 (cI s).2.1,.int .i64 (cI s).2.2])∧(cI s).1.length≤c∧(∀M:List Nat,(∀k,k∈M→k<w.heap.size)→cN.Row M w' A (cI s).1)∧Below w.heap.size w w'
theorem eZ {s w w' er at_} (h:cI s=([],er,at_)) (hb:Below w.heap.size w w'):jM s w (.returned (.tuple #[.slice none 0 0,.int .i64 er,.int .i64 at_])) w':=by
 unfold jM
 rw [h]
 exact ⟨none,0,rfl,H_ _,fun M _=>aN.Row.nil _ _ _ _,hb⟩
theorem xC {s w w' out v base} (h:cI s=(out,0,0)) (ho:w'.ownsRow base 60 4 v out.length (out.flatMap uX)) (hbase:w.heap.size≤base) (hb:Below w.heap.size w w') :
  jM s w (.returned (.tuple #[v,.int .i64 0,.int .i64 0])) w':=by
 unfold jM
 rw [h]
 obtain ⟨A,c,rfl,hc,hr⟩:=nN (d:=cN) Dk ho (M:=[]) (fun k hk=>by simp at hk) (fun x _=>Dj _ _ x)
 refine ⟨A,c,rfl,hc,fun M hM=>?_,hb⟩
 obtain ⟨A',c',he,_,hr'⟩:=nN (d:=cN) Dk ho (M:=M) (fun k hk=>Y_ (hM k hk) hbase) (fun x _=>Dj _ _ x)
 injection he with he1 _ _
 rw [he1]
 exact hr'
theorem Lv (s w) (hT:cF w) (hs:s.size≤9223372036854775806):Calls prog 23 #[.string s] w (jM s w):=by
 by_cases h1:8192<s.size
 ·have hz:(8192:Int)<s.size:=by omega
  have HX:Hid (cI s=([],2,0)):=by unfold cI;rw [M_ h1];exact rfl
  clear h1
  go_enter func23,ntmps23
  go_wp2_with fail
  refine L_ (results_tmp3 rfl _ _ _) rfl ?_
  exact eZ HX.out (J_ _ _)
 have hz:(s.size:Int)≤8192:=by omega
 have HBAD:=hid (Vq s w hs hT)
 by_cases h2:0≤qQ 0 (aI s.data.toList)
 ·have HX:Hid (cI s=([],10,qQ 0 (aI s.data.toList))):=by unfold cI;rw [K_ h1,M_ h2];exact rfl
  clear h1 hT
  go_enter func23,ntmps23
  go_wp2_with fail
  refine HBAD.out.mono ?_
  rintro e w1 ⟨rfl,hb1⟩
  go_wp2_with fail
  refine L_ (results_tmp3 rfl _ _ _) rfl ?_
  exact eZ HX.out hb1
 have h2':qQ 0 (aI s.data.toList)<0:=by omega
 obtain ⟨ANS,hANS⟩:=nm_ (cI s)
 have HX:Hid (gJ (s.size+1) (skip s.data.toList 0).1 (skip s.data.toList 0).2 []=ANS):=by rw [←hANS];unfold cI;rw [K_ h1,K_ h2];exact rfl
 have HANS:=hid hANS
 have HT:=hid hT
 clear h1 h2 hANS hT
 go_enter func23,ntmps23
 go_wp2_with fail
 refine HBAD.out.mono ?_
 rintro e w1 ⟨rfl,hb1⟩
 clear HBAD
 have hT1:=hid (HT.out.below hb1)
 have HB1:=hid hb1
 clear hb1 HT
 go_wp2_with fail
 obtain ⟨G,hG⟩:=nm_ w1.heap.size
 obtain ⟨w2,hw2⟩:=nm_ (w1.alloc (.cells #[.string s,.int .i64 0,.slice none 0 0] 84))
 have hk2:mB w2 G s 0 (.slice none 0 0):=by rw [←hw2,←hG];exact I_ _ _
 have hb2:Below w1.heap.size w1 w2:=by rw [←hw2];exact (J_ _ _).alloc le_ _
 rw [hw2,hG]
 have HG:=hid hG
 have hsz2:G<w2.heap.size:=aC hk2
 have HS2:Hid (Same [G] w1 w2):=Same.of_below hb2
 have HFIN:Hid (∀W,Same [G] w1 W→Below w.heap.size w W):=fun W h=>HB1.out.trans ((h.below_of (fun k hk=>by simp at hk;omega)).mono HB1.out.size)
 clear hw2 hG hb2
 refine (wY G s 0 _ w2 hk2 (by omega) (by omega) (by omega) _ rfl).mono ?_
 rintro e w3 ⟨rfl,r,a,hk3,hs3,hr3,ha3,hl1,hl2,hl3⟩
 go_wp2_with fail
 have hr0:gJ (s.size+1) r.data.toList a []=ANS:=by
  have h:=HX.out
  unfold skip at h
  rw [aJ,←hr3,←ha3] at h
  exact h
 go_loopg [7,8,9] (s.size+1) (fun k _ _ _ w'=>∃(r:ByteArray) (a:Int) (A:Option Addr) (c:Nat) (out:List bQ),mB w' G r a (.slice A out.length c) ∧
  w'.ownsRow (G+1) 60 4 (.slice A out.length c) out.length (out.flatMap uX)∧Same [G] w1 w'∧r.size<k∧out.length≤2000∧0≤a∧a+r.size≤s.size∧gJ k r.data.toList a out=ANS)
 case atStart=>exact ⟨r,a,none,0,[],hk3,⟨rfl,.inl ⟨rfl,rfl⟩⟩,HS2.out.trans hs3 (fun x hx=>.inl hx),by omega,by simp,by omega,by omega,hr0⟩
 case round=>
  clear hk2 hk3 hs3 hr3 ha3 hl1 hl2 hl3 hr0 hsz2
  obtain ⟨r,a,A,c,out,hk,hown,hS,hrk,hol,ha0,har,hans⟩:=hrel
  obtain ⟨gk,rfl⟩:=pk_ gk 1 (by omega)
  have HK:=hid hk
  have HOWN:=hid hown
  have HS:=hid hS
  have HA:=hid hans
  have hg:=aC hk
  have hc0:wr.cell? ⟨G,0,none⟩=some (.string r):=(aB hk 0).trans rfl
  have HGT:Hid (yV≤G):=by have:=hT1.out.size;rw [HG.out] at this;exact this
  have HTr:Hid (cF wr):=hT1.out.keep hS (fun k hk=>by simp at hk;subst hk;exact HGT.out)
  clear hk hown hS hans
  by_cases hp:0<r.size
  ·have hne:=uM hp
   have hl:r.data.toList≠[]:=by intro e;have:=aJ r;rw [e] at this;simp at this;omega
   have HL:=hid hl
   clear hl
   go_wp2_with fail
   refine (Of G r a _ wr HK.out (by omega) hp HTr.out).mono ?_
   rintro e w4 ⟨⟨⟨⟨t1,t2,t3,t4⟩,tn,te⟩,htok,rfl⟩,hb4⟩
   have HTOK:=hid htok
   have HK4:Hid (mB w4 G r a (.slice A out.length c)):=(hb4.block _ hg).trans HK.out
   have HO4:=hid (iW HOWN.out hb4)
   have HS4:=hid (HS.out.below_ hb4)
   have hg4:=aC HK4.out
   have d0:w4.cell? ⟨G,0,none⟩=some (.string r):=(aB HK4.out 0).trans rfl
   have d1:w4.cell? ⟨G,1,none⟩=some (.int .i64 a):=(aB HK4.out 1).trans rfl
   have d2:w4.cell? ⟨G,2,none⟩=some (.slice A out.length c):=(aB HK4.out 2).trans rfl
   clear hb4 hc0 htok
   by_cases ho:out.length=2000
   ·have HO:=hid ho
    have hob:((out.length:Int) == 2000)=true:=by rw [beq_iff_eq];omega
    clear ho
    go_wp2_with fail
    go_quiet (fail)
    go_wp2_with fail
    refine L_ (results_tmp3 rfl _ _ _) rfl ?_
    refine eZ (by have h:=HA.out;rw [tW HL.out HO.out] at h;rw [HANS.out,←h]) ?_
    exact HFIN.out _ ((HS4.out.alloc _).drewN _)
   ·have hob:((out.length:Int) == 2000)=false:=by rw [beq_eq_false_iff_ne];omega
    have HO:=hid ho
    clear ho
    by_cases he:te=0
    ·subst he
     have htb:=Ku HL.out (by rw [←HTOK.out])
     rw [←HTOK.out,aJ] at htb
     obtain ⟨htb1,htb2⟩:=htb
     simp only at htb1 htb2
     go_wp2_with fail
     obtain ⟨w5,hw5⟩:=nm_ (w4.alloc (.cells #[.int .i64 t1,.string t2,.int .i64 t3,.int .i64 a] 60))
     obtain ⟨TB,hTB⟩:=nm_ w4.heap.size
     have hk5:w5.heap[TB]? = some (.cells #[.int .i64 t1,.string t2,.int .i64 t3,.int .i64 a] 60 (0,0)):=by rw [←hw5,←hTB];exact I_ _ _
     have hb5:Below w4.heap.size w4 w5:=by rw [←hw5];exact (J_ _ _).alloc le_ _
     have HK5:Hid (mB w5 G r a (.slice A out.length c)):=(hb5.block _ hg4).trans HK4.out
     have HO5:=hid (iW HO4.out hb5)
     have HS5:=hid (HS4.out.below_ hb5)
     rw [hw5,hTB]
     rw [hTB] at hg4
     have e2:w5.cell? ⟨G,2,none⟩=some (.slice A out.length c):=(aB HK5.out 2).trans rfl
     have f2:=aD HK5.out 2
     have q0:=(aB hk5 0).trans rfl
     have q1:=(aB hk5 1).trans rfl
     have q2:=(aB hk5 2).trans rfl
     have q3:=(aB hk5 3).trans rfl
     have hlt5:=aC hk5
     have hg5:=aC HK5.out
     clear hw5 hTB hk5 hb5 d0 d1 d2
     go_cut [] (fun wx=>∃(g cap:Nat),mB wx G r a (.slice (some ⟨g,0,none⟩) (out.length+1) cap) ∧
      wx.ownsRow (G+1) 60 4 (.slice (some ⟨g,0,none⟩) (out.length+1) cap) (out.length+1) (out.flatMap uX++[.int .i64 t1,.string t2,.int .i64 t3,.int .i64 a])∧Same [G] w1 wx)
     case first=>
      obtain ⟨i0,hi0,hz0,hz1,hz2⟩:=info_parts Su
      have hne:some G≠(Value.slice A out.length c).ownBlock:=fun e=>by have:=aS HO5.out G e.symm;omega
      have hgl:∀o,G<((w5.alloc o).drew).heap.size:=fun o=>Y_ hg5 ((J_ w5.heap.size w5).alloc le_ o).size
      have he2:∀o,((w5.alloc o).drew).cell? ⟨G,2,none⟩=some (.slice A out.length c):=fun o=>(((J_ w5.heap.size w5).alloc le_ o).cell (p:=⟨G,2,none⟩) hg5).trans e2
      have hf2:∀o,((w5.alloc o).drew).frozen? ⟨G,2,none⟩=false:=fun o=>(((J_ w5.heap.size w5).alloc le_ o).frozen (p:=⟨G,2,none⟩) hg5).trans f2
      go_region_law
       ((refine step_append_lies _ (by rfl) _ _ _ (by rfl) (G+1) 60 i0 _ 4 40 underlying46 hi0 hz0 hz1 hz2 rfl (by omega) (.slice A out.length c) out.length (out.flatMap uX) (by rfl) ((HO5.out.alloc _).drew)
           ⟨w5.heap.size,0,none⟩ 1 1 [.int .i64 t1,.string t2,.int .i64 t3,.int .i64 a] (by rfl) (by rfl) (World.news_of_block (cs:=#[.int .i64 t1,.string t2,.int .i64 t3,.int .i64 a]) (t:=60) (fr:=(0,0)) (I_ w5 _)) (by simp [Value.oneCell'])
           (by omega) (by unfold maxLen;omega) (by omega) (by simp;omega) (w5.heap.size+1) (by simp) ?_;intro g cap w6 hown6 hgrow hat hlt;have z6:=(hgrow.cell_far ⟨G,2,none⟩ (hgl _) hne).trans (he2 _);have y6:=(hgrow.frozen_far ⟨G,2,none⟩ (hgl _) hne).trans (hf2 _)))
      all_goals
       go_wp2_with fail
       go_meet
       have k6:=(hgrow.block G (hgl _) hne).trans ((((J_ w5.heap.size w5).alloc le_ _).block G hg5).trans HK5.out)
       have hgg:=(aS hown6 g rfl).1
       exact ⟨g,cap,aZ k6 2 _,jJ hown6 (p:=⟨G,2,none⟩) (by simp [Value.ownBlock];omega) _,
        ((((HS5.out.alloc _).drew).grown hgrow (fun k hk=>by have:=(aS HO5.out k hk).1;have:=HG.out;exact .inr (by omega))).setCell (.inl (by simp)) _)⟩
     case rest=>
      obtain ⟨g,cap,hk6,hown6,hs6⟩:=hcut
      clear e2 f2 q0 q1 q2 q3 hlt5 hg5
      go_wp2_with fail
      refine (rV G r a _ tn _ hk6 (by omega) (by omega) (by omega) ha0 (by omega)).mono ?_
      rintro e w7 ⟨rfl,hk7,hs7⟩
      have HO7:=hid (Di hown6 hs7 (fun k hk=>by simp at hk;omega))
      have HS7:=hid (hs6.then_ hs7)
      clear hk6 hown6 hs6 hs7
      go_wp2_with fail
      have hle:=mO (r.data.toList.take tn.toNat)
      rw [l_,aJ] at hle
      have hsz7:(r.extract tn.toNat r.size).size=r.size - tn.toNat:=Lib.ext_size _ _
      refine (wY G _ _ _ _ hk7 (by omega) (by omega) (by omega) _ rfl).mono ?_
      rintro e w8 ⟨rfl,r8,a8,hk8,hs8,hr8,ha8,hm1,hm2,hm3⟩
      go_wp2_with fail
      go_roundg gk
      case measure=>omega
      case rel=>
       have h:=HA.out
       rw [tV HL.out HO.out (by rw [←HTOK.out]),←HTOK.out] at h
       unfold skip at h
       rw [←mQ,aJ,←hr8,←ha8] at h
       have h20:=HO.out
       have hlen:(out++[(⟨t1,t2,t3,a⟩:bQ)]).length=out.length+1:=by simp
       refine ⟨r8,a8,some ⟨g,0,none⟩,cap,out++[⟨t1,t2,t3,a⟩],by rw [hlen];exact hk8,?_,HS7.out.then_ hs8,by omega,by rw [hlen];omega,by omega,by omega,h⟩
       rw [hlen,q_]
       exact Di HO7.out hs8 (fun k hk=>by simp at hk;omega)
    ·have heb:(te != 0)=true:=by rw [bne_iff_ne];exact he
     have HE:=hid he
     clear he
     go_wp2_with fail
     go_quiet (fail)
     go_wp2_with fail
     refine L_ (results_tmp3 rfl _ _ _) rfl ?_
     refine eZ (by have h:=HA.out;rw [wZ HL.out HO.out (by rw [←HTOK.out];exact HE.out),←HTOK.out] at h;rw [HANS.out,←h]) ?_
     exact HFIN.out _ ((HS4.out.alloc _).drewN _)
  ·have hne:=uN hp
   have hnil:r.data.toList=[]:=X_ (by rw [aJ];omega)
   have h:=HA.out
   rw [hnil,xB] at h
   have HE:=hid h
   clear h hnil
   have d1:wr.cell? ⟨G,1,none⟩=some (.int .i64 a):=(aB HK.out 1).trans rfl
   have d2:wr.cell? ⟨G,2,none⟩=some (.slice A out.length c):=(aB HK.out 2).trans rfl
   go_wp2_with fail
   obtain ⟨i0,hi0,hz0,hz1,hz2⟩:=info_parts Su
   go_region_law
    ((refine step_append_lies _ (by rfl) _ _ _ (by rfl) (G+1) 60 i0 _ 4 40 underlying46 hi0 hz0 hz1 hz2 rfl (by omega) (.slice A out.length c) out.length (out.flatMap uX) (by rfl) ((HOWN.out.alloc _).drew)
        ⟨wr.heap.size,0,none⟩ 1 1 [.int .i64 0,.string ⟨#[]⟩,.int .i64 0,.int .i64 a] (by rfl) (by rfl) (World.news_of_block (cs:=#[.int .i64 0,.string ⟨#[]⟩,.int .i64 0,.int .i64 a]) (t:=60) (fr:=(0,0)) (I_ wr _)) (by simp [Value.oneCell'])
        (by omega) (by unfold maxLen;omega) (by omega) (by simp;omega) (wr.heap.size+1) (by simp) ?_;intro g cap w6 hown6 hgrow hat hlt))
   all_goals
    go_wp2_with fail
    refine L_ (results_tmp3 rfl _ _ _) rfl ?_
    have hS6:=(((HS.out.alloc _).drew).grown hgrow (fun k hk=>by have:=(aS HOWN.out k hk).1;have:=HG.out;exact .inr (by omega)))
    have ho6:w6.ownsRow (G+1) 60 4 (.slice (some ⟨g,0,none⟩) (out.length+1) cap) (out++[(⟨0,⟨#[]⟩,0,a⟩:bQ)]).length ((out++[(⟨0,⟨#[]⟩,0,a⟩:bQ)]).flatMap uX):=by
     rw [q_,O_]
     exact hown6
    exact xC (HANS.out.trans HE.out.symm) ho6 (by have:=HB1.out.size;have:=HG.out;omega) (HFIN.out _ hS6)
end Go.Proofs.YtgcfjkfipkfijaaGreatDoor
