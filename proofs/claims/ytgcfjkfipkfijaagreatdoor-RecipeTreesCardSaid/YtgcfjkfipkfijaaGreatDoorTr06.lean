/- Part 6 of the proof of rtrees_card; no conditions. -/
import Derived.Test.YtgcfjkfipkfijaaGreatDoorTr01
import Derived.Test.YtgcfjkfipkfijaaGreatDoorTr05
set_option maxRecDepth 100000
set_option maxHeartbeats 4000000
namespace Go.Proofs.YtgcfjkfipkfijaaGreatDoor
open Go Go.RowKit Go.Lib _root_.Go.Proofs.Tryz
theorem wA {l first a b below} (h:fP first below):∀(n:Nat) (e:Ex) (s:St),s.at_≤first+64→s.at_≤(nL l first a b below n e s).2.at_∧(nL l first a b below n e s).2.at_≤first+64
 | 0,e,s,h1=>⟨m_ _,h1⟩
 | n+1,e,s,h1=>by
  rw [nL]
  cases iR l a b s with
  | none=>exact ⟨m_ _,h1⟩
  | some op=>
   have hp:=jO first s
   simp only
   by_cases hb:(aT first s).1=false
   ·rw [M_ hb]
    have:=hp.2 hb
    exact ⟨by simp only;omega,by simp only;omega⟩
   ·rw [K_ hb]
    have h2:=hp.1 (by simpa using hb)
    have h3:=h (aT first s).2 (by omega)
    have h4:=wA (l:=l) (a:=a) (b:=b) h n (eY op e (below (aT first s).2).1) (below (aT first s).2).2 h3.2
    omega
theorem bN {l first a b below} (h:fP first below):fP first (iI l first a b below):=fun s h1=>by
 have h2:=h s h1
 have h3:=wA (l:=l) (a:=a) (b:=b) h 66 (below s).1 (below s).2 h2.2
 unfold iI
 omega
theorem cG.lo {l g c F A first lo lo' P} (h:cG l g A c first lo F P) (hl:lo≤lo'):cG l g A c first lo' F P:=
 fun s w h1 h2 h3 h4 h5=>h s w h1 h2 h3 (k_ hl h4) h5
theorem Mw (l g A c first lo below) (hF:cG l g A c first lo 173 below) (hG:fP first below) (hlc:l.length≤c) (hf0:-9223372036854775808≤first) :
  cG l g A c first lo 169 (iI l first 6 8 below):=by
 intro s w hb hr h1 h2 h3
 have eg:∀args w,(callFunc 173 args).run prog w=.ok (.enter 173 args) w:=enters_of func173 (by kernel_rfl) rfl
 have hg:=aC hb
 have hb0:Below w.heap.size w (w.alloc (.cells #[.int .i64 0,.int .i64 0,.string ⟨#[]⟩,.slice none 0 0] 41 (0,0))):=(J_ _ _).alloc le_ _
 have HROW:=hid (vE l g A c first lo 6 8 173 below (by omega) (by omega) (by omega) hF hG hlc hf0 eg s _ (hb.same hb0) (hr.keep (Same.of_below hb0)) h1 h2 h3)
 obtain ⟨⟨e,s'⟩,hp⟩:∃p,iI l first 6 8 below s=p:=⟨_,rfl⟩
 rw [hp] at HROW ⊢
 clear hb hr h1 h2 h3 hF hG hp eg
 go_enter func169,ntmps169
 go_wp2_with fail
 refine HROW.out.mono ?_
 rintro r w1 ⟨B,d,rfl,hx,hrd,hs⟩
 obtain ⟨⟨z0,z1,z2,z3⟩,f0,f1,f2,f3⟩:=aK (hs.heap (k:=w.heap.size) (by simp;omega) (I_ w _))
 have H:=hk_ hx hrd ((Same.of_below hb0).trans hs (fun _ h=>.inl h))
 clear hx hrd hs hb0
 go_wp2_with fail
 refine L_ (v:=eJ e B d) (by simp [results,results169,go_sem, *]) rfl ?_
 exact dV (fun k hk=>by show k<_;simp;omega) (by show w.heap.size<_;simp) H.out.1 H.out.2.1 H.out.2.2 le_ hg _ _ _ _
theorem Rd (l g A c first lo below) (hF:cG l g A c first lo 169 below) (hG:fP first below) (hlc:l.length≤c) (hf0:-9223372036854775808≤first) :
  cG l g A c first lo 164 (iI l first 4 5 below):=by
 intro s w hb hr h1 h2 h3
 have eg:∀args w,(callFunc 169 args).run prog w=.ok (.enter 169 args) w:=enters_of func169 (by kernel_rfl) rfl
 have hg:=aC hb
 have hb0:Below w.heap.size w (w.alloc (.cells #[.int .i64 0,.int .i64 0,.string ⟨#[]⟩,.slice none 0 0] 41 (0,0))):=(J_ _ _).alloc le_ _
 have HROW:=hid (vE l g A c first lo 4 5 169 below (by omega) (by omega) (by omega) hF hG hlc hf0 eg s _ (hb.same hb0) (hr.keep (Same.of_below hb0)) h1 h2 h3)
 obtain ⟨⟨e,s'⟩,hp⟩:∃p,iI l first 4 5 below s=p:=⟨_,rfl⟩
 rw [hp] at HROW ⊢
 clear hb hr h1 h2 h3 hF hG hp eg
 go_enter func164,ntmps164
 go_wp2_with fail
 refine HROW.out.mono ?_
 rintro r w1 ⟨B,d,rfl,hx,hrd,hs⟩
 obtain ⟨⟨z0,z1,z2,z3⟩,f0,f1,f2,f3⟩:=aK (hs.heap (k:=w.heap.size) (by simp;omega) (I_ w _))
 have H:=hk_ hx hrd ((Same.of_below hb0).trans hs (fun _ h=>.inl h))
 clear hx hrd hs hb0
 go_wp2_with fail
 refine L_ (v:=eJ e B d) (by simp [results,results164,go_sem, *]) rfl ?_
 exact dV (fun k hk=>by show k<_;simp;omega) (by show w.heap.size<_;simp) H.out.1 H.out.2.1 H.out.2.2 le_ hg _ _ _ _
theorem Re (l g A c first lo below) (hF:cG l g A c first lo 150 below) (hG:fP first below) (hlc:l.length≤c) (hf0:-9223372036854775808≤first) :
  cG l g A c first lo 131 (iI l first 15 15 below):=by
 intro s w hb hr h1 h2 h3
 have eg:∀args w,(callFunc 150 args).run prog w=.ok (.enter 150 args) w:=enters_of func150 (by kernel_rfl) rfl
 have hg:=aC hb
 have hb0:Below w.heap.size w (w.alloc (.cells #[.int .i64 0,.int .i64 0,.string ⟨#[]⟩,.slice none 0 0] 41 (0,0))):=(J_ _ _).alloc le_ _
 have HROW:=hid (vE l g A c first lo 15 15 150 below (by omega) (by omega) (by omega) hF hG hlc hf0 eg s _ (hb.same hb0) (hr.keep (Same.of_below hb0)) h1 h2 h3)
 obtain ⟨⟨e,s'⟩,hp⟩:∃p,iI l first 15 15 below s=p:=⟨_,rfl⟩
 rw [hp] at HROW ⊢
 clear hb hr h1 h2 h3 hF hG hp eg
 go_enter func131,ntmps131
 go_wp2_with fail
 refine HROW.out.mono ?_
 rintro r w1 ⟨B,d,rfl,hx,hrd,hs⟩
 obtain ⟨⟨z0,z1,z2,z3⟩,f0,f1,f2,f3⟩:=aK (hs.heap (k:=w.heap.size) (by simp;omega) (I_ w _))
 have H:=hk_ hx hrd ((Same.of_below hb0).trans hs (fun _ h=>.inl h))
 clear hx hrd hs hb0
 go_wp2_with fail
 refine L_ (v:=eJ e B d) (by simp [results,results131,go_sem, *]) rfl ?_
 exact dV (fun k hk=>by show k<_;simp;omega) (by show w.heap.size<_;simp) H.out.1 H.out.2.1 H.out.2.2 le_ hg _ _ _ _
theorem Vr (l g A c first lo below) (hF:cG l g A c first lo 131 below) (hG:fP first below) (hlc:l.length≤c) (hf0:-9223372036854775808≤first) :
  cG l g A c first lo 121 (iI l first 16 16 below):=by
 intro s w hb hr h1 h2 h3
 have eg:∀args w,(callFunc 131 args).run prog w=.ok (.enter 131 args) w:=enters_of func131 (by kernel_rfl) rfl
 have hg:=aC hb
 have hb0:Below w.heap.size w (w.alloc (.cells #[.int .i64 0,.int .i64 0,.string ⟨#[]⟩,.slice none 0 0] 41 (0,0))):=(J_ _ _).alloc le_ _
 have HROW:=hid (vE l g A c first lo 16 16 131 below (by omega) (by omega) (by omega) hF hG hlc hf0 eg s _ (hb.same hb0) (hr.keep (Same.of_below hb0)) h1 h2 h3)
 obtain ⟨⟨e,s'⟩,hp⟩:∃p,iI l first 16 16 below s=p:=⟨_,rfl⟩
 rw [hp] at HROW ⊢
 clear hb hr h1 h2 h3 hF hG hp eg
 go_enter func121,ntmps121
 go_wp2_with fail
 refine HROW.out.mono ?_
 rintro r w1 ⟨B,d,rfl,hx,hrd,hs⟩
 obtain ⟨⟨z0,z1,z2,z3⟩,f0,f1,f2,f3⟩:=aK (hs.heap (k:=w.heap.size) (by simp;omega) (I_ w _))
 have H:=hk_ hx hrd ((Same.of_below hb0).trans hs (fun _ h=>.inl h))
 clear hx hrd hs hb0
 go_wp2_with fail
 refine L_ (v:=eJ e B d) (by simp [results,results121,go_sem, *]) rfl ?_
 exact dV (fun k hk=>by show k<_;simp;omega) (by show w.heap.size<_;simp) H.out.1 H.out.2.1 H.out.2.2 le_ hg _ _ _ _
end Go.Proofs.YtgcfjkfipkfijaaGreatDoor
namespace Go.Proofs.YtgcfjkfipkfijaaGreatDoor
open Go Go.RowKit Go.Lib _root_.Go.Proofs.Tryz
theorem lJ {l first sum} (h:fP first sum):fP first (tI l first sum):=fun s h1=>by
 have h2:=h s h1
 unfold tI
 cases iR l 9 14 (sum s).2 with
 | none=>exact h2
 | some op=>
  have hp:=jO first (sum s).2
  simp only
  by_cases hb:(aT first (sum s).2).1=false
  ·rw [M_ hb]
   have:=hp.2 hb
   exact ⟨by simp only;omega,by simp only;omega⟩
  ·rw [K_ hb]
   have h3:=hp.1 (by simpa using hb)
   have h4:=h (aT first (sum s).2).2 (by omega)
   exact ⟨by simp only;omega,by simp only;omega⟩
theorem Rf (l g A c first lo below) (hF:cG l g A c first lo 164 below) (hG:fP first below) (hlc:l.length≤c) (hf0:-9223372036854775808≤first) :
  cG l g A c first lo 150 (tI l first below):=by
 intro s w hb hr h1 h2 h3
 have HB:=hid hb
 have HR:=hid hr
 have HF:=hid hF
 have HG:=hid hG
 have hg:=aC hb
 have H1:=hid h1
 have H2:=hid h2
 have H3:=hid h3
 obtain ⟨ANS,hANS⟩:=nm_ (tI l first below s)
 rw [hANS]
 have HANS:=hid hANS
 clear hb hr hF hG h1 h2 h3 hANS
 go_enter func150,ntmps150
 go_wp2_with fail
 have hb0:Below w.heap.size w (w.alloc (.cells #[.int .i64 0,.int .i64 0,.string ⟨#[]⟩,.slice none 0 0] 41 (0,0))):=(J_ _ _).alloc le_ _
 obtain ⟨⟨e0,s0⟩,hp⟩:∃p,below s=p:=⟨_,rfl⟩
 refine (HF.out s _ (HB.out.same hb0) (HR.out.keep (Same.of_below hb0)) H1.out H2.out H3.out).mono ?_
 rw [hp]
 rintro e w1 ⟨B,d,rfl,hx,hrd,hs⟩
 have hz:w1.heap[w.heap.size]? = some (.cells #[.int .i64 0,.int .i64 0,.string ⟨#[]⟩,.slice none 0 0] 41 (0,0)):=
  hs.heap (by simp;omega) (I_ _ _)
 have hs1:Same [g] w w1:=(Same.of_below hb0).trans hs (fun _ h=>.inl h)
 have hg1:=HG.out s H3.out
 unfold tI at HANS
 simp only at hx hrd
 simp only [hp] at hg1 HANS
 have hle1:w.heap.size<w1.heap.size:=aC hz
 have HX:=hid hx
 have HRD:=hid hrd
 have HS1:=hid hs1
 have HZ:=hid hz
 have HG1:=hid hg1
 clear hx hrd hs1 hz hg1 hs hb0 hp
 obtain ⟨wr,hw2,hb2,q1⟩:=alo_ w1 (.cells #[.int .i64 e0.op,.int .i64 e0.n,.string e0.name,.slice B e0.kids.length d] 41 (0,0))
 have q2:cR (fun k=>k≤w.heap.size∨k=w1.heap.size) wr e0 B d:=
  ((HX.out.more (Q:=fun k=>k≤w.heap.size∨k=w1.heap.size) (fun k hk=>by simp;omega))).below hb2
 have q3:=HRD.out.same hb2
 have q4:Same [g] w wr:=HS1.out.below_ hb2
 have q5:=(hb2.block _ hle1).trans HZ.out
 obtain ⟨Kx,hKx⟩:=nm_ w1.heap.size
 have hat1:first≤s0.at_:=k_ H1.out HG1.out.1
 have q6:lo≤s0.at_:=k_ H2.out HG1.out.1
 have q7:s0.at_≤first+64:=HG1.out.2
 obtain ⟨K8,hK8⟩:=nm_ w.heap.size
 have HIS:=eL l g A c first s0 wr q3 (HR.out.keep q4) hlc 9 14 (by omega) (by omega) (by omega)
 have hblk:w1.heap.size<wr.heap.size:=aC q1
 rw [hK8] at q2 q5 hle1
 rw [hKx] at q1 q2 hle1 hblk
 have Q:=hm_ q1 q2 q3 q4 q5
 have HHIS:=hid HIS
 have HW2:=hk_ hw2 hKx hK8
 clear HIS q1 q2 q3 q4 q5 hb2 hw2 hKx hK8
 cases hisp:iR l 9 14 s0 with
 | none=>
  simp only [hisp] at HANS HHIS
  go_wp2_with (rw [HW2.out.1,HW2.out.2.1,HW2.out.2.2];refine HHIS.out.mono ?_;rintro r w3 ⟨rfl,hb3⟩;obtain ⟨⟨z0,z1,z2,z3⟩,f0,f1,f2,f3⟩:=aK ((hb3.block _ (aC Q.out.2.2.2.2)).trans Q.out.2.2.2.2);obtain ⟨⟨x0,x1,x2,x3⟩,_⟩:=aK ((hb3.block _ (aC Q.out.1)).trans Q.out.1);have HB3:=hid hb3;clear hb3)
  refine L_ (v:=eJ e0 B d) (by simp [results,results150,go_sem, *]) rfl ?_
  rw [←HANS.out]
  have hK8:=HW2.out.2.2
  exact dV (P:=fun k=>k≤K8∨k=Kx) (fun k hk=>.inl (by omega)) (.inl le_) (Q.out.2.1.below HB3.out) (Q.out.2.2.1.same HB3.out) (Q.out.2.2.2.1.below_ HB3.out) (by omega) hg _ _ _ _
 | some op=>
  simp only [hisp] at HANS HHIS
  have hop:=Hr hisp
  have hmx:=HR.out.1
  have HP:=hid (jO first s0)
  obtain ⟨⟨pb,sp⟩,hpp⟩:∃p,aT first s0=p:=⟨_,rfl⟩
  simp only [hpp] at HANS HP
  cases pb with
  | false=>
   go_wp2_with (rw [HW2.out.1,HW2.out.2.1,HW2.out.2.2];refine HHIS.out.mono ?_;rintro r w3 ⟨rfl,hb3⟩;have HB3:=hid hb3;clear hb3)
   refine (cW g A l.length c first s0 w3 (Q.out.2.2.1.same HB3.out) hat1 q7 (by omega) hf0).mono ?_
   rw [hpp]
   rintro r w4 ⟨rfl,hrd4,hs4⟩
   have hs34:Same [g] wr w4:=(Same.of_below HB3.out).trans hs4 (fun _ h=>.inl h)
   have hK8:=HW2.out.2.2
   obtain ⟨⟨z0,z1,z2,z3⟩,f0,f1,f2,f3⟩:=aK (hs34.heap (by simp;omega) Q.out.2.2.2.2)
   obtain ⟨⟨x0,x1,x2,x3⟩,_⟩:=aK (hs34.heap (by simp;omega) Q.out.1)
   have HRD4:=hid hrd4
   have HS4:=hid hs34
   have HK8:=hid hK8
   clear hrd4 hs4 hs34 hK8
   go_wp2_with fail
   refine L_ (v:=eJ e0 B d) (by simp [results,results150,go_sem, *]) rfl ?_
   have h:=HANS.out
   rw [M_ trivial] at h
   rw [←h]
   have hK8:=HK8.out
   exact dV (P:=fun k=>k≤K8∨k=Kx) (fun k hk=>.inl (by omega)) (.inl le_) (Q.out.2.1.keep HS4.out (fun k hk=>by simp at hk;omega)) HRD4.out (Q.out.2.2.2.1.then_ HS4.out) (by omega) hg _ _ _ _
  | true=>
   obtain ⟨hsp,hlt64⟩:=HP.out.1 rfl
   obtain ⟨⟨e2,s2⟩,hp2⟩:∃p,below sp=p:=⟨_,rfl⟩
   have hg2:=HG.out sp (by omega)
   simp only [hp2] at hg2 HANS
   have HA2:Hid ((eY op e0 e2,s2)=ANS):=hid (by have h:=HANS.out;simpa using h)
   go_wp2_with (rw [HW2.out.1,HW2.out.2.1,HW2.out.2.2];refine HHIS.out.mono ?_;rintro r w3 ⟨rfl,hb3⟩;have HB3:=hid hb3;clear hb3)
   refine (cW g A l.length c first s0 w3 (Q.out.2.2.1.same HB3.out) hat1 q7 (by omega) hf0).mono ?_
   rw [hpp]
   rintro r w4 ⟨rfl,hrd4,hs4⟩
   have hs34:Same [g] wr w4:=(Same.of_below HB3.out).trans hs4 (fun _ h=>.inl h)
   have hK8:=HW2.out.2.2
   obtain ⟨⟨x0,x1,x2,x3⟩,f0,f1,f2,f3⟩:=aK (hs34.heap (by simp;omega) Q.out.1)
   have HX4:Hid (w4.heap[Kx]? = some (.cells #[.int .i64 e0.op,.int .i64 e0.n,.string e0.name,.slice B e0.kids.length d] 41 (0,0))):=hid (hs34.heap (by simp;omega) Q.out.1)
   have HZ4:=hid (hs34.heap (k:=K8) (by simp;omega) Q.out.2.2.2.2)
   have HE4:=hid (Q.out.2.1.keep hs34 (fun k hk=>by simp at hk;omega))
   have HS4:=hid (Q.out.2.2.2.1.then_ hs34)
   have HC:Hid (∀W,Below w4.heap.size w4 W→Calls prog 164 #[.pointer (some ⟨g,0,none⟩)] W (eO g A l.length c first (e2,s2) W)):=hid (fun W hW=>by
    rw [←hp2]
    exact HF.out sp W (qM.same hrd4 hW) ((HR.out.keep HS4.out).keep (Same.of_below hW)) (by omega) (by omega) (by omega))
   clear hrd4 hs4 hs34 hp2
   have hgx:g≠Kx:=by omega
   have hg8:g≠K8:=by omega
   have hx4:Kx<w4.heap.size:=aC HX4.out
   have hz4:K8<w4.heap.size:=aC HZ4.out
   have HK8:=hid hK8
   clear hK8
   go_wp2_with fail
   go_region_with (first
    | (refine (HC.out _ (by first | exact J_ _ _ | exact (J_ _ _).drew)).mono ?_;rintro r w5 ⟨B5,d5,rfl,hx5,hrd5,hs5⟩;have y0:=hs5.cell (by simp;omega) x0;have y1:=hs5.cell (by simp;omega) x1;have y2:=hs5.cell (by simp;omega) x2;have y3:=hs5.cell (by simp;omega) x3;have hb5:=hs5.heap (by simp;omega) HX4.out;have hz5:=hs5.heap (k:=K8) (by simp;omega) HZ4.out;have H5:=hid (⟨hx5,hrd5,hs5,hb5,hz5⟩:_∧_∧_∧_∧_);clear hx5 hrd5 hs5 hb5 hz5)
    | (go_at_call 149;refine (vZ op _ 2 2 _).mono ?_;rintro r w6 ⟨rfl,hb6⟩;have hK6:=(hb6.block K8 (by have:=aC H5.out.2.2.2.2;simp;omega)).trans ((((J_ w5.heap.size w5).alloc le_ _).block K8 (aC H5.out.2.2.2.2)).trans H5.out.2.2.2.2);have hbn:=(hb6.block w5.heap.size (by simp)).trans (I_ w5 _);obtain ⟨⟨k0,k1,k2,k3⟩,g0,g1,g2,g3⟩:=aK hK6;have H6:=hid (⟨hb6,hK6,hbn⟩:_∧_∧_);clear hb6 hK6 hbn))
   all_goals
    have hs45:Same [g] w4 w5:=by first | exact H5.out.2.2.1 | exact (Same.refl [g] w4).drew.then_ H5.out.2.2.1
    have hx5:cR (fun k=>k≤K8∨k=Kx) w5 e2 B5 d5:=H5.out.1.more (fun k hk=>.inl (show k<w4.heap.size by omega))
    have he5:=HE4.out.keep hs45 (fun k hk=>by have:=HK8.out;simp at hk;omega)
    have hb56:Below w5.heap.size w5 w6:=((J_ _ _).alloc le_ _).trans (H6.out.1.mono (by simp))
    have h45:=hs45.size
    go_wp2
    refine L_ (v:=eJ (eY op e0 e2) (some ⟨w5.heap.size,0,none⟩) 2) (by simp [results,results150,go_sem,eY,Ex.op,Ex.n,Ex.name,Ex.kids, *]) rfl ?_
    rw [←HA2.out]
    have hK8:=HK8.out
    exact dV (P:=fun k=>k≤K8∨k=Kx) (fun k hk=>.inl (by omega)) (.inl le_) (cR.two (k:=w5.heap.size) (by omega) (he5.below hb56) (hx5.below hb56) H6.out.2.2 op) (H5.out.2.1.same hb56) ((HS4.out.then_ hs45).below_ hb56) (by omega) hg _ _ _ _
end Go.Proofs.YtgcfjkfipkfijaaGreatDoor
namespace Go.Proofs.YtgcfjkfipkfijaaGreatDoor
open Go Go.RowKit Go.Lib _root_.Go.Proofs.Tryz
theorem Zt (l g A c first lo un) (hF:cG l g A c first lo 173 un) (hlc:l.length≤c) (hf0:-9223372036854775808≤first) (s w) (hb:qM w g A l.length c first s) (hr:cN.Row [g] w A l) (h1:first≤s.at_) (h2:lo≤s.at_+1) (h3:s.at_≤first+64) (op) (hisp:iR l 2 3 s=some op) :
  Calls prog 173 #[.pointer (some ⟨g,0,none⟩)] w (eO g A l.length c first (if (aT first s).1=false then (eD,(aT first s).2) else (fR op (un (aT first s).2).1,(un (aT first s).2).2)) w):=by
 have HR:=hid hr
 have HF:=hid hF
 have hg:=aC hb
 have H2:=hid h2
 obtain ⟨ANS,hANS⟩:=nm_ (if (aT first s).1=false then (eD,(aT first s).2) else (fR op (un (aT first s).2).1,(un (aT first s).2).2))
 rw [hANS]
 have HANS:=hid hANS
 obtain ⟨wr,hw2,hb2,q5⟩:=alo_ w (.cells #[.int .i64 0,.int .i64 0,.string ⟨#[]⟩,.slice none 0 0] 41 (0,0))
 have q3:=hb.same hb2
 have q4:Same [g] w wr:=Same.of_below hb2
 obtain ⟨K8,hK8⟩:=nm_ w.heap.size
 have HIS:=eL l g A c first s wr q3 (HR.out.keep q4) hlc 2 3 (by omega) (by omega) (by omega)
 rw [hK8] at q5
 have Q:=hk_ q3 q4 q5
 rw [hisp] at HIS
 have HHIS:=hid HIS
 have HW2:=hj_ hw2 hK8
 have hop:=Hr hisp
 have hmx:=HR.out.1
 have HP:=hid (jO first s)
 obtain ⟨⟨pb,sp⟩,hpp⟩:∃p,aT first s=p:=⟨_,rfl⟩
 simp only [hpp] at HANS HP
 clear HIS q3 q4 q5 hb2 hw2 hK8 hb hr hF h2 hANS
 cases pb with
 | false=>
  go_enter func173,ntmps173
  go_wp2_with (rw [HW2.out.1,HW2.out.2];refine HHIS.out.mono ?_;rintro r w3 ⟨rfl,hb3⟩;have HB3:=hid hb3;clear hb3)
  refine (cW g A l.length c first s w3 (Q.out.1.same HB3.out) h1 h3 (by omega) hf0).mono ?_
  rw [hpp]
  rintro r w4 ⟨rfl,hrd4,hs4⟩
  have hs34:Same [g] wr w4:=(Same.of_below HB3.out).trans hs4 (fun _ h=>.inl h)
  have hK8:=HW2.out.2
  obtain ⟨⟨z0,z1,z2,z3⟩,f0,f1,f2,f3⟩:=aK (hs34.heap (by simp;omega) Q.out.2.2)
  have HRD4:=hid hrd4
  have HS4:=hid hs34
  have HK8:=hid hK8
  clear hrd4 hs4 hs34 hK8
  go_wp2_with fail
  refine L_ (v:=eJ eD none 0) (by simp [results,results173,go_sem, *] <;> exact ⟨rfl,rfl,rfl,rfl⟩) rfl ?_
  have h:=HANS.out
  rw [M_ trivial] at h
  rw [←h]
  have hK8:=HK8.out
  exact dV (P:=fun k=>k≤K8) (fun k hk=>by show k≤K8;omega) le_ (cR.leaf rfl) HRD4.out (Q.out.2.1.then_ HS4.out) (by omega) hg _ _ _ _
 | true=>
  obtain ⟨hsp,hlt64⟩:=HP.out.1 rfl
  obtain ⟨⟨e2,s2⟩,hp2⟩:∃p,un sp=p:=⟨_,rfl⟩
  simp only [hp2] at HANS
  have HA2:Hid ((fR op e2,s2)=ANS):=hid (by have h:=HANS.out;simpa using h)
  go_enter func173,ntmps173
  go_wp2_with (rw [HW2.out.1,HW2.out.2];refine HHIS.out.mono ?_;rintro r w3 ⟨rfl,hb3⟩;have HB3:=hid hb3;clear hb3)
  refine (cW g A l.length c first s w3 (Q.out.1.same HB3.out) h1 h3 (by omega) hf0).mono ?_
  rw [hpp]
  rintro r w4 ⟨rfl,hrd4,hs4⟩
  have hs34:Same [g] wr w4:=(Same.of_below HB3.out).trans hs4 (fun _ h=>.inl h)
  have hK8:=HW2.out.2
  have HZ4:=hid (hs34.heap (k:=K8) (by simp;omega) Q.out.2.2)
  have HS4:=hid (Q.out.2.1.then_ hs34)
  have HRD4:=hid hrd4
  have hz4:K8<w4.heap.size:=aC HZ4.out
  have HK8:=hid hK8
  have hg8:g≠K8:=by omega
  clear hrd4 hs4 hs34 hK8
  go_wp2_with fail
  refine (HF.out sp _ HRD4.out (HR.out.keep HS4.out) (by omega) (by have:=H2.out;omega) (by omega)).mono ?_
  rw [hp2]
  rintro r w5 ⟨B5,d5,rfl,hx5,hrd5,hs5⟩
  have hz5:=hs5.heap (k:=K8) (by simp;omega) HZ4.out
  have H5:=hl_ hx5 hrd5 hs5 hz5
  clear hx5 hrd5 hs5 hz5 hp2
  go_wp2_with fail
  refine (vZ op _ 1 1 _).mono ?_
  rintro r w6 ⟨rfl,hb6⟩
  have hK6:=(hb6.block K8 (by have:=aC H5.out.2.2.2;simp;omega)).trans ((((J_ w5.heap.size w5).alloc le_ _).block K8 (aC H5.out.2.2.2)).trans H5.out.2.2.2)
  have hbn:=(hb6.block w5.heap.size (by simp)).trans (I_ w5 _)
  obtain ⟨⟨k0,k1,k2,k3⟩,g0,g1,g2,g3⟩:=aK hK6
  have H6:=hk_ hb6 hK6 hbn
  clear hb6 hK6 hbn
  go_wp2_with fail
  have hs45:Same [g] w4 w5:=H5.out.2.2.1
  have hK8:=HK8.out
  have hx5:cR (fun k=>k≤K8) w5 e2 B5 d5:=H5.out.1.more (fun k hk=>.inl (show k<w4.heap.size by omega))
  have hb56:Below w5.heap.size w5 w6:=((J_ _ _).alloc le_ _).trans (H6.out.1.mono (by simp))
  have h45:=hs45.size
  refine L_ (v:=eJ (fR op e2) (some ⟨w5.heap.size,0,none⟩) 1) (by simp [results,results173,go_sem,fR,Ex.op,Ex.n,Ex.name,Ex.kids, *]) rfl ?_
  rw [←HA2.out]
  exact dV (P:=fun k=>k≤K8) (fun k hk=>by show k≤K8;omega) le_ (cR.one (k:=w5.heap.size) (by omega) (hx5.below hb56) H6.out.2.2 op) (H5.out.2.1.same hb56) ((HS4.out.then_ hs45).below_ hb56) (by omega) hg _ _ _ _
end Go.Proofs.YtgcfjkfipkfijaaGreatDoor
