/- Part 13 of the proof of rtrees_card; no conditions. -/
import Derived.Test.YtgcfjkfipkfijaaGreatDoorTr01
import Derived.Test.YtgcfjkfipkfijaaGreatDoorTr12
set_option maxRecDepth 100000
set_option maxHeartbeats 8000000
namespace Go.Proofs.YtgcfjkfipkfijaaGreatDoor
open Go Go.RowKit Go.Lib _root_.Go.Proofs.Tryz
def qZ (g:Nat) (A:Option Addr) (n c:Nat) (p:Pc × RS) (w:World) (r:Ending) (w':World):Prop:=
 ∃v,r=.returned v∧Av rR (fun k=>k<w.heap.size) w' p.1 [v]∧zJ w' g A n c p.2∧Same [g] w w'
structure Cd (l:List bQ) (g:Nat) (A:Option Addr) (c:Nat) (w0:World) (b0 Kx:Nat) (nm:ByteArray) (wr:World) (B:Option Addr) (b:Nat) (V:Option Addr) (v:Nat) (al:List Ar) (xs:List (Ar × List Value)) (s:RS):Prop where
 rows:aR oH 75 b0 (fun k=>k<b0∨(Value.slice V al.length v).ownBlock=some k) wr B al.length b xs
 fst:xs.map (·.1)=al
 lens:∀q,q∈xs→q.2.length=5
 names:aR aN.str 9 b0 (fun k=>k<b0) wr V al.length v ((al.map (·.name)).map sE)
 apart:∀k,(Value.slice B al.length b).ownBlock=some k→(Value.slice V al.length v).ownBlock≠some k
 box:wr.heap[Kx]? = some (.cells #[.string nm,.slice B al.length b] 97 (0,0))
 rdr:mL l g A c wr s
 same:Same [g] w0 wr
 lt:g<w0.heap.size∧w0.heap.size≤Kx∧Kx<b0∧b0≤wr.heap.size
 row:cN.Row [g] w0 A l
structure Ce (l:List bQ) (g:Nat) (A:Option Addr) (c:Nat) (w0:World) (b0 Kx:Nat) (nm:ByteArray) (wr:World) (B:Option Addr) (b:Nat) (V:Option Addr) (v:Nat) (al:List Ar) (xs:List (Ar × List Value)) (K:Nat) (an:ByteArray) (cs:List Value) (s:RS):Prop where
 rows:aR oH 75 b0 (fun k=>(k<b0∨(Value.slice V (al.length+1) v).ownBlock=some k)∨k=K) wr B al.length b xs
 fst:xs.map (·.1)=al
 lens:∀q,q∈xs→q.2.length=5
 names:aR aN.str 9 b0 (fun k=>k<b0) wr V (al.length+1) v ((al.map (·.name)++[an]).map sE)
 apart:∀k,(Value.slice B al.length b).ownBlock=some k→(Value.slice V (al.length+1) v).ownBlock≠some k
 box:wr.heap[Kx]? = some (.cells #[.string nm,.slice B al.length b] 97 (0,0))
 abox:wr.heap[K]? = some (.cells (Value.string an::cs).toArray 75 (0,0))
 far:b0≤K∧(Value.slice B al.length b).ownBlock≠some K∧(Value.slice V (al.length+1) v).ownBlock≠some K
 rdr:mL l g A c wr s
 same:Same [g] w0 wr
 lt:g<w0.heap.size∧w0.heap.size≤Kx∧Kx<b0∧b0≤wr.heap.size
 row:cN.Row [g] w0 A l
section
variable {l : List bQ} {g c b v K b0 Kx : Nat} {A B V : Option Addr} {w0 wr w' : World} {nm an : ByteArray} {al : List Ar} {xs : List (Ar × List Value)} {cs : List Value} {s s' : RS}
theorem Cd.step (h:Cd l g A c w0 b0 Kx nm wr B b V v al xs s) (hs:Same [g] wr w') (hr:zJ w' g A l.length c s') (hi:iY l s'):Cd l g A c w0 b0 Kx nm w' B b V v al xs s':=
 have hl:=h.lt
 ⟨h.rows.keep hs (fun k hk=>by simp at hk;exact .inl (by omega)) (fun k hk e=>by simp at hk;have:=(h.rows.blk k e).1;omega),h.fst,h.lens,h.names.keepS hs (fun k hk e=>by simp at hk;have:=(h.names.blk k e).1;omega),h.apart,hs.heap (by simp;omega) h.box,h.rdr.next hr hs hi,h.same.then_ hs,⟨hl.1,hl.2.1,hl.2.2.1,d_ hl.2.2.2 hs.size⟩,h.row⟩
theorem Ce.step (h:Ce l g A c w0 b0 Kx nm wr B b V v al xs K an cs s) (hs:Same [g] wr w') (hr:zJ w' g A l.length c s') (hi:iY l s'):Ce l g A c w0 b0 Kx nm w' B b V v al xs K an cs s':=
 have hl:=h.lt
 have hf:=h.far
 ⟨h.rows.keep hs (fun k hk=>by simp at hk;exact .inl (.inl (by omega))) (fun k hk e=>by simp at hk;have:=(h.rows.blk k e).1;omega),h.fst,h.lens,h.names.keepS hs (fun k hk e=>by simp at hk;have:=(h.names.blk k e).1;omega),h.apart,hs.heap (by simp;omega) h.box,hs.heap (by simp;omega) h.abox,h.far,h.rdr.next hr hs hi,h.same.then_ hs,⟨hl.1,hl.2.1,hl.2.2.1,d_ hl.2.2.2 hs.size⟩,h.row⟩
theorem Ce.put {cs'} (h:Ce l g A c w0 b0 Kx nm wr B b V v al xs K an cs s) (hs:Same [K] wr w') (hb:w'.heap[K]? = some (.cells (Value.string an::cs').toArray 75 (0,0))):Ce l g A c w0 b0 Kx nm w' B b V v al xs K an cs' s:=by
 have hl:=h.lt
 have hf:=h.far
 have hs0:Same [g] w0 w':=h.same.trans hs (fun x hx=>by simp at hx;exact .inr (by omega))
 exact ⟨h.rows.keep hs (fun k hk=>by simp at hk;exact .inr hk) (fun k hk e=>by simp at hk;subst hk;exact hf.2.1 e),h.fst,h.lens,h.names.keepS hs (fun k hk e=>by simp at hk;subst hk;exact hf.2.2 e),h.apart,hs.heap (by simp;omega) h.box,hb,hf,
  ⟨hs.heap (by simp;omega) h.rdr.rd,h.row.keep hs0,h.rdr.cap,h.rdr.inr⟩,hs0,⟨hl.1,hl.2.1,hl.2.2.1,d_ hl.2.2.2 hs.size⟩,h.row⟩
theorem Cd.named {g2 cap w5 w6} (h:Cd l g A c w0 b0 Kx nm w5 B b V v al xs s) (hk:w5.heap[K]? = some (.cells (Value.string an::cs).toArray 75 (0,0))∧b0≤K∧(∀k,(Value.slice B al.length b).ownBlock=some k→k<K)∧(∀k,(Value.slice V al.length v).ownBlock=some k→k<K)∧aR oH 75 b0 (fun k=>(k<b0∨(Value.slice V al.length v).ownBlock=some k)∨k=K) w5 B al.length b xs) (hG:aR aN.str 9 b0 (fun k=>k<b0) w6 (some ⟨g2,0,none⟩) (al.length+1) cap ((al.map (·.name)).map sE++[(an,[.string an])])) (hS:Same (Value.slice V al.length v).ownBlock.toList w5 w6) (hg2:b0≤g2∧g2<w6.heap.size∧((Value.slice V al.length v).ownBlock=some g2∨w5.heap.size<g2)):Ce l g A c w0 b0 Kx nm w6 B b (some ⟨g2,0,none⟩) cap al xs K an cs s:=by
 obtain ⟨hk,hK,hkB,hkV,hrows⟩:=hk
 have hl:=h.lt
 have hS0:Same [g] w0 w6:=h.same.trans hS (fun x hx=>.inr (by have:=(h.names.blk x (by simpa using hx)).1;omega))
 have hkl:=aC hk
 have hno:∀k,k<b0→k∉(Value.slice V al.length v).ownBlock.toList:=fun k hk hc=>by have:=(h.names.blk k (by simpa using hc)).1;omega
 have hr6:aR oH 75 b0 (fun k=>(k<b0∨(Value.slice (some ⟨g2,0,none⟩) (al.length+1) cap).ownBlock=some k)∨k=K) w6 B al.length b xs:=by
  refine ((hrows.more (Q:=fun k=>((k<b0∨(Value.slice V al.length v).ownBlock=some k)∨k=K)∨k=g2) (fun k hk=>?_)).keep hS (fun k hk=>.inl (.inl (.inr (by simpa using hk)))) (fun k hk e=>h.apart k e (by simpa using hk))).more (fun k hk=>?_)
  ·rcases hk with hk | rfl
   ·exact .inl hk
   ·rcases hg2.2.2 with h1 | h1
    ·exact .inl (.inl (.inr h1))
    ·exact .inr (by omega)
  ·rcases hk with (hk | hk) | hk
   ·exact .inl (.inl (.inl (.inl hk)))
   ·exact .inl (.inr (by have:some g2=some k:=hk;exact (e_ this).symm))
   ·exact .inl (.inl (.inr hk))
 refine ⟨hr6,h.fst,h.lens,?_,fun k hk e=>?_,hS.heap (hno _ hl.2.2.1) h.box,hS.heap (fun hc=>by have:=hkV K (by simpa using hc);omega) hk,⟨hK,fun e=>by have:=hkB K e;omega,fun e=>?_⟩,?_,hS0,⟨hl.1,hl.2.1,hl.2.2.1,d_ hl.2.2.2 hS.size⟩,h.row⟩
 ·rw [f_];exact hG
 ·obtain rfl:g2=k:=by have:some g2=some k:=e;exact e_ this
  rcases hg2.2.2 with h1 | h1
  ·exact h.apart g2 hk h1
  ·have:=(h.rows.blk g2 hk).2;omega
 ·obtain rfl:g2=K:=by have:some g2=some K:=e;exact e_ this
  rcases hg2.2.2 with h1 | h1
  ·have:=hkV g2 h1;omega
  ·omega
 ·exact ⟨hS.heap (hno g (by omega)) h.rdr.rd,h.row.keep hS0,h.rdr.cap,h.rdr.inr⟩
theorem Ce.done {g3 cap3 w6 e E d} (h:Ce l g A c w0 b0 Kx nm wr B b V v al xs K an [.int .i64 e.op,.int .i64 e.n,.string e.name,.slice E e.kids.length d] s) (hG:aR oH 75 b0 (fun k=>(k<b0∨(Value.slice V (al.length+1) v).ownBlock=some k)∨k=K) w6 (some ⟨g3,0,none⟩) (al.length+1) cap3 (xs++[(⟨an,e⟩,[.string an,.int .i64 e.op,.int .i64 e.n,.string e.name,.slice E e.kids.length d])])) (hS:Same (Value.slice B al.length b).ownBlock.toList wr w6) (hg3:b0≤g3∧g3<w6.heap.size∧((Value.slice B al.length b).ownBlock=some g3∨wr.heap.size<g3)):Cd l g A c w0 b0 Kx nm (w6.setCell ⟨Kx,1,none⟩ (.slice (some ⟨g3,0,none⟩) (al.length+1) cap3)) (some ⟨g3,0,none⟩) cap3 V v (al++[⟨an,e⟩]) (xs++[(⟨an,e⟩,[.string an,.int .i64 e.op,.int .i64 e.n,.string e.name,.slice E e.kids.length d])]) s:=by
 have hlen:(al++[(⟨an,e⟩:Ar)]).length=al.length+1:=by simp
 have hl:=h.lt
 have hno:∀k,k<b0→k∉(Value.slice B al.length b).ownBlock.toList:=fun k hk hc=>by have:=(h.rows.blk k (by simpa using hc)).1;omega
 have hS0:Same [g] w0 w6:=h.same.trans hS (fun x hx=>.inr (by have:=(h.rows.blk x (by simpa using hx)).1;omega))
 have hb6:w6.heap[Kx]? = some (.cells #[.string nm,.slice B al.length b] 97 (0,0)):=hS.heap (hno _ hl.2.2.1) h.box
 have hX:Same [Kx] w6 (w6.setCell ⟨Kx,1,none⟩ (.slice (some ⟨g3,0,none⟩) (al.length+1) cap3)):=(Same.refl [Kx] w6).setCell (.inl (by simp)) _
 have hS1:=hS0.setCell (p:=⟨Kx,1,none⟩) (.inr hl.2.1) (.slice (some ⟨g3,0,none⟩) (al.length+1) cap3)
 refine ⟨?_,by rw [f_,h.fst];rfl,fun q hq=>?_,?_,fun k hk e=>?_,by rw [hlen];exact aZ hb6 1 _,⟨hX.heap (by simp;omega) (hS.heap (hno g (by omega)) h.rdr.rd),h.row.keep hS1,h.rdr.cap,h.rdr.inr⟩,hS1,⟨hl.1,hl.2.1,hl.2.2.1,d_ hl.2.2.2 (d_ hS.size hX.size)⟩,h.row⟩
 ·rw [hlen]
  exact (hG.keep hX (fun k hk=>by simp at hk;exact .inl (.inl (by omega))) (fun k hk e=>by simp at hk;have:=(hG.blk k e).1;omega)).more (fun k hk=>.inl (.inl hk))
 ·rcases G_ hq with hq | hq
  ·exact h.lens q hq
  ·simp at hq;subst hq;rfl
 ·rw [hlen,f_]
  exact (h.names.keepS hS (fun k hk e=>h.apart k (by simpa using hk) e)).keepS hX (fun k hk e=>by simp at hk;have:=(h.names.blk k e).1;omega)
 ·rw [hlen] at hk e
  obtain rfl:g3=k:=by have:some g3=some k:=hk;exact e_ this
  rcases hg3.2.2 with h1 | h1
  ·exact h.apart g3 h1 e
  ·have:=(h.names.blk g3 e).2;omega
end
end Go.Proofs.YtgcfjkfipkfijaaGreatDoor
namespace Go.Proofs.YtgcfjkfipkfijaaGreatDoor
open Go Go.RowKit Go.Lib _root_.Go.Proofs.Tryz
variable {k : Nat} {t : TypeId} {w : World}
theorem Zu {v0 v1 v2 v3 v4:Value} (h:w.heap[k]? = some (.cells #[v0,v1,v2,v3,v4] t (0,0))) :
  (w.cell? ⟨k,0,none⟩=some v0∧w.cell? ⟨k,1,none⟩=some v1∧w.cell? ⟨k,2,none⟩=some v2∧w.cell? ⟨k,3,none⟩=some v3∧w.cell? ⟨k,4,none⟩=some v4) ∧
    w.frozen? ⟨k,0,none⟩=false∧w.frozen? ⟨k,1,none⟩=false∧w.frozen? ⟨k,2,none⟩=false∧w.frozen? ⟨k,3,none⟩=false∧w.frozen? ⟨k,4,none⟩=false:=
 ⟨⟨aB h 0,aB h 1,aB h 2,aB h 3,aB h 4⟩,aD h 0,aD h 1,aD h 2,aD h 3,aD h 4⟩
theorem Yu {v0 v1:Value} (h:w.heap[k]? = some (.cells #[v0,v1] t (0,0))) :
  (w.cell? ⟨k,0,none⟩=some v0∧w.cell? ⟨k,1,none⟩=some v1)∧w.frozen? ⟨k,0,none⟩=false∧w.frozen? ⟨k,1,none⟩=false:=⟨⟨aB h 0,aB h 1⟩,aD h 0,aD h 1⟩
theorem Sb {l g c A s w} (T:fZ l) (h:mL l g A c w s):Calls prog 85 #[.pointer (some ⟨g,0,none⟩)] w (qZ g A l.length c (lK l s) w):=by
 obtain ⟨a,ha⟩:=nm_ (bG l [] s)
 obtain ⟨s3,h3⟩:=nm_ (bC l ⟨#[40]⟩ a.2)
 obtain ⟨q4,h4⟩:=nm_ (s3.bad == 0 && !bZ l ⟨#[41]⟩ s3)
 obtain ⟨c5,h5⟩:=nm_ (mH l 8 q4 [] s3)
 have HX:Hid (lK l s=(.step a.1 c5.1,bC l ⟨#[59]⟩ (bC l ⟨#[41]⟩ c5.2))):=hid (by rw [←h5,←h4,←h3,←ha];rfl)
 have HQ:=hl_ ha h3 h4 h5
 have H:=hid h
 have hg:=h.lt
 have hlr:=h.row.1
 have HNM:=hid (kU T h (cc:=0) (mJ.nil w none))
 rw [ha] at HNM
 clear h ha h3 h4 h5
 go_enter func85,ntmps85
 go_wp2_with fail
 refine HNM.out.mono ?_
 rintro e w1 ⟨rfl,hr1,hs1⟩
 have hin1:iY l a.2:=by have:=(cT T.fin [] H.out.inr).1;rwa [HQ.out.1] at this
 have H1:=hj_ (H.out.next hr1 hs1 hin1) hs1
 clear hr1 hs1 hin1
 go_upto_region 2 with fail
 obtain ⟨Kx,hKx⟩:=nm_ w1.heap.size
 obtain ⟨w2,hw2,hb2,_⟩:=alo_ w1 (.cells #[.string a.1,.slice none 0 0] 97 (0,0))
 have hk2:w2.heap[Kx]? = some (.cells #[.string a.1,.slice none 0 0] 97 (0,0)):=by rw [←hKx,←hw2];exact I_ _ _
 rw [hw2,hKx]
 have HA2:Hid (Cd l g A c w w2.heap.size Kx a.1 w2 none 0 none 0 [] [] a.2):=hid ⟨aR.nil _ _ _ _ _,rfl,fun q hq=>by simp at hq,aR.nil _ _ _ _ _,fun k hk=>by simp [Value.ownBlock] at hk,hk2,H1.out.1.step hb2,H1.out.2.below_ hb2,⟨hg,hKx▸H1.out.2.size,aC hk2,H_ _⟩,H.out.row⟩
 obtain ⟨b0,hb0⟩:=nm_ w2.heap.size
 rw [hb0] at HA2
 have hkx:Kx≠g:=by have:=HA2.out.lt;omega
 clear hb2 hk2 hw2 hKx hb0 H1
 go_wp2_with fail
 refine (gL T HA2.out.rdr ⟨#[40]⟩ (by decide)).mono ?_
 rw [HQ.out.2.1]
 rintro e w3 ⟨rfl,hr3,hs3⟩
 have HA3:=hid (HA2.out.step hs3 hr3 (by have:=(aQ T.fin ⟨#[40]⟩ (by decide) HA2.out.rdr.inr).1;rwa [HQ.out.2.1] at this))
 clear hr3 hs3 HA2
 go_upto_region 4 with fail
 go_cut [5] (fun s5 wx=>s5=.bool q4∧Cd l g A c w b0 Kx a.1 wx none 0 none 0 [] [] s3)
 case first=>
  have HOK:=hid (mI HA3.out.rdr)
  have HSG:=hid (qT HA3.out.rdr ⟨#[41]⟩)
  have hq:=HQ.out.2.2.1
  by_cases hb:s3.bad=0
  ·have hbb:(s3.bad == 0)=true:=D_ hb
   rw [hbb] at HOK hq
   obtain ⟨i,hi⟩:=nm_ (bZ l ⟨#[41]⟩ s3)
   rw [hi] at HSG hq
   have HQ4:=hid hq
   clear hi hq hb hbb
   cases i
   all_goals
    go_wp2_with fail
    refine HOK.out.mono ?_
    rintro e w4 ⟨rfl,rfl⟩
    go_wp2_with fail
    refine HSG.out.mono ?_
    rintro e w4 ⟨rfl,hb4⟩
    have HA4:=hid (HA3.out.step (Same.of_below hb4) (HA3.out.rdr.step hb4).rd HA3.out.rdr.inr)
    clear hb4
    go_wp2_with fail
    go_meet
    exact ⟨by rw [←HQ4.out];rfl,HA4.out⟩
  ·have hbb:(s3.bad == 0)=false:=A_ hb
   rw [hbb] at HOK hq
   have HQ4:=hid hq
   clear hq hb hbb
   go_wp2_with fail
   refine HOK.out.mono ?_
   rintro e w4 ⟨rfl,rfl⟩
   go_wp2_with fail
   go_meet
   exact ⟨by rw [←HQ4.out];rfl,HA3.out⟩
 case rest=>
  obtain ⟨rfl,hA⟩:=hcut
  have HA4:=hid hA
  clear hA
  go_wp2_with fail
  go_loopg [4,5] 10 (fun k s4 s5 wr=>∃n q V v B b al xs s',s4=.slice V al.length v∧s5=.bool q∧Cd l g A c w b0 Kx a.1 wr B b V v al xs s'∧n<k∧n+al.length=8∧(q=true→al.length≤4)∧mH l n q al s'=c5)
  case atStart=>exact ⟨8,q4,none,0,none,0,[],[],s3,rfl,rfl,HA4.out,by omega,rfl,fun _=>by simp,HQ.out.2.2.2⟩
  case round=>
   obtain ⟨n,q,V,v,B,b,al,xs,s',rfl,rfl,hA,hnk,hnl,hq4,hans⟩:=hrel
   obtain ⟨gk,rfl⟩:=pk_ gk 1 (by omega)
   have HW:=hid hA
   have HANS:=hid hans
   clear hA hans
   cases q with
   | false=>
    have hfin:(al,s')=c5:=by
     have h:=HANS.out
     cases n with
     | zero=>exact h
     | succ n=>rw [mH,K_ (by decide)] at h;exact h
    have HF:=hid hfin
    clear hfin hq4
    go_wp2_with fail
    refine (gL T HW.out.rdr ⟨#[41]⟩ (by decide)).mono ?_
    rintro e w5 ⟨rfl,hr5,hs5⟩
    have HW5:=hid (HW.out.step hs5 hr5 (aQ T.fin ⟨#[41]⟩ (by decide) HW.out.rdr.inr).1)
    clear hr5 hs5
    go_wp2_with fail
    refine (gL T HW5.out.rdr ⟨#[59]⟩ (by decide)).mono ?_
    rintro e w6 ⟨rfl,hr6,hs6⟩
    have HW6:=hid (HW5.out.step hs6 hr6 (aQ T.fin ⟨#[59]⟩ (by decide) HW5.out.rdr.inr).1)
    obtain ⟨⟨x0,x1⟩,_⟩:=Yu HW6.out.box
    clear hr6 hs6
    go_wp2_with fail
    go_ret
    rw [HX.out,←HF.out]
    have hl:=HW6.out.lt
    have hr:=(HW6.out.rows.more (Q:=fun k=>k<w.heap.size) (fun k hk=>.inl (.inl (by omega)))).out (fun k hk=>by omega) HW6.out.lens
    rw [HW6.out.fst] at hr
    exact ⟨_,rfl,Av.step hr,HW6.out.rdr.rd,HW6.out.same⟩
   | true=>
    have h4:=hq4 rfl
    obtain ⟨m,rfl⟩:=pk_ n 1 (by omega)
    obtain ⟨s1,h1⟩:=nm_ (cS l (al.length:Int) 4 s')
    obtain ⟨a2,h2⟩:=nm_ (bG l (al.map (·.name)) s1)
    obtain ⟨s3',h3⟩:=nm_ (bC l ⟨#[61]⟩ a2.2)
    obtain ⟨⟨e4,s4'⟩,h4'⟩:∃x,dZ l s3'=x:=⟨_,rfl⟩
    obtain ⟨c6,h6⟩:=nm_ (aF l ⟨#[44]⟩ s4')
    have hap:Ds l (al.map (·.name)) s'=(⟨a2.1,e4⟩,s4'):=by
     unfold Ds
     rw [U_,h1,h2]
     simp only [h3,h4']
    have hans:mH l m c6.1 (al++[⟨a2.1,e4⟩]) c6.2=c5:=by
     have h:=HANS.out
     rw [mH,M_ rfl,hap] at h
     rw [←h6]
     exact h
    have hlt4:c6.1=true→al.length+1≤4:=fun hc=>by
     by_cases h5:al.length=4
     ·have hb:=zQ (l:=l) (had:=al.map (·.name)) (s:=s') (by rw [U_];exact h5)
      rw [hap] at hb
      rw [←h6] at hc
      exact absurd (nT (by decide) hc) hb
     ·omega
    have HS:=hid (⟨h1,h2,h3,h4',h6,hans,hlt4⟩:_∧_∧_∧_∧_∧_∧_)
    clear h1 h2 h3 h4' h6 hap hans hlt4 hq4
    go_wp2_with fail
    refine (Dx T HW.out.rdr (al.length:Int) 4).mono ?_
    rw [HS.out.1]
    rintro e w5 ⟨rfl,hr5,hs5⟩
    have HW5:=hid (HW.out.step hs5 hr5 (by have:=(mT (l:=l) (al.length:Int) 4 HW.out.rdr.inr).1;rwa [HS.out.1] at this))
    have HN5:=hid (kU T HW5.out.rdr (cc:=v) (had:=al.map (·.name)) HW5.out.names.strs)
    rw [U_,HS.out.2.1] at HN5
    clear hr5 hs5
    go_wp2_with fail
    refine HN5.out.mono ?_
    rintro e w6 ⟨rfl,hr6,hs6⟩
    have HW6:=hid (HW5.out.step hs6 hr6 (by have:=(cT T.fin (al.map (·.name)) HW5.out.rdr.inr).1;rwa [HS.out.2.1] at this))
    clear hr6 hs6
    go_upto_region 9 with fail
    obtain ⟨K,hK⟩:=nm_ w6.heap.size
    obtain ⟨w7,hw7,hb7,_⟩:=alo_ w6 (.cells #[.string a2.1,.int .i64 0,.int .i64 0,.string ⟨#[]⟩,.slice none 0 0] 75 (0,0))
    have hk7:w7.heap[K]? = some (.cells (Value.string a2.1::[.int .i64 0,.int .i64 0,.string ⟨#[]⟩,.slice none 0 0]).toArray 75 (0,0)):=by rw [←hK,←hw7];exact I_ _ _
    rw [hw7,hK]
    have HW7:=hid (HW6.out.step (Same.of_below hb7) (HW6.out.rdr.step hb7).rd HW6.out.rdr.inr)
    have hl6:=HW6.out.lt
    have HK7:=hid (⟨hk7,hK▸hl6.2.2.2,fun k hk=>by rw [←hK];exact (HW6.out.rows.blk k hk).2,fun k hk=>by rw [←hK];exact (HW6.out.names.blk k hk).2,
     (HW6.out.rows.more (Q:=fun k=>(k<b0∨(Value.slice V al.length v).ownBlock=some k)∨k=K) (fun k hk=>hk.elim .inl (fun e=>.inr (by omega)))).below hb7⟩:_∧b0≤K∧(∀k,(Value.slice B al.length b).ownBlock=some k→k<K)∧(∀k,(Value.slice V al.length v).ownBlock=some k→k<K)∧_)
    have k0:w7.cell? ⟨K,0,none⟩=some (.string a2.1):=(aB hk7 0).trans rfl
    have hkl:=aC hk7
    clear hb7 hw7 hK hk7 hl6
    go_wp2_with (at_builtin;refine Hid.out ?_)
    refine hid ?_
    refine cL (by rfl) _ _ _ (by rfl) (.string ⟨#[]⟩) 16 underlying37 gM (by rfl) (by decide) (by rfl) HW7.out.names a2.1 #[.string a2.1] _ (by rfl) (by rfl) (by simp [Value.oneCell']) (Av.str _ _ _) (by unfold maxLen;omega) (by omega) HW7.out.lt.2.2.2 ?_
    intro g2 cap w8 hG8 hS8 hg8
    have HM8:=hid (HW7.out.named HK7.out hG8 hS8 hg8)
    clear hG8 hS8 hg8 k0 hkl HW HW5 HW6 HW7 HK7 HN5
    go_wp2_with fail
    refine (gL T HM8.out.rdr ⟨#[61]⟩ (by decide)).mono ?_
    rw [HS.out.2.2.1]
    rintro e w9 ⟨rfl,hr9,hs9⟩
    have HM9:=hid (HM8.out.step hs9 hr9 (by have:=(aQ T.fin ⟨#[61]⟩ (by decide) HM8.out.rdr.inr).1;rwa [HS.out.2.2.1] at this))
    clear hr9 hs9 HM8
    go_wp2_with fail
    refine (zL T HM9.out.rdr).mono ?_
    rw [HS.out.2.2.2.1]
    rintro e w10 ⟨E,d,rfl,hx10,hr10,hs10⟩
    have HM10:=hid (HM9.out.step hs10 hr10 (by have:=(lM T.take HM9.out.rdr.inr).1;rwa [HS.out.2.2.2.1] at this))
    simp only at hx10
    obtain ⟨⟨k0,k1,k2,k3,k4⟩,f0,f1,f2,f3,f4⟩:=Zu HM10.out.abox
    have HX10:=hid (⟨hx10,fun k hk=>(HM9.out.rows.blk k hk).2,fun k hk=>(HM9.out.names.blk k hk).2,aC HM9.out.abox,HM9.out.lt.2.2.2⟩:_∧(∀k,(Value.slice B al.length b).ownBlock=some k→k<w9.heap.size)∧(∀k,(Value.slice (some ⟨g2,0,none⟩) (al.length+1) cap).ownBlock=some k→k<w9.heap.size)∧_∧_)
    clear hx10 hr10 hs10 HM9
    go_upto_region 12 with fail
    obtain ⟨w11,hw11⟩:=nm_ ((((w10.setCell ⟨K,1,none⟩ (.int .i64 e4.op)).setCell ⟨K,2,none⟩ (.int .i64 e4.n)).setCell ⟨K,3,none⟩ (.string e4.name)).setCell ⟨K,4,none⟩ (.slice E e4.kids.length d))
    have hs11:Same [K] w10 w11:=by rw [←hw11];exact ((((Same.refl [K] w10).setCell (.inl (by simp)) _).setCell (.inl (by simp)) _).setCell (.inl (by simp)) _).setCell (.inl (by simp)) _
    have hk11:w11.heap[K]? = some (.cells (Value.string a2.1::[.int .i64 e4.op,.int .i64 e4.n,.string e4.name,.slice E e4.kids.length d]).toArray 75 (0,0)):=by rw [←hw11];exact aZ (aZ (aZ (aZ HM10.out.abox 1 _) 2 _) 3 _) 4 _
    rw [hw11]
    have HM11:=hid (HM10.out.put hs11 hk11)
    have HX11:Hid (Av oH (fun k=>((k<b0∨(Value.slice (some ⟨g2,0,none⟩) (al.length+1) cap).ownBlock=some k)∨k=K)∨(Value.slice B al.length b).ownBlock=some k) w11 (⟨a2.1,e4⟩:Ar) [.string a2.1,.int .i64 e4.op,.int .i64 e4.n,.string e4.name,.slice E e4.kids.length d]):=by
     obtain ⟨y1,y2,y3,y4,y5⟩:=HX10.out
     refine hid (Av.ar ((y1.keep hs11 (fun k hk=>by simp at hk;subst hk;exact y4)).more (fun k hk=>.inl ?_)))
     rcases hk with ((hk | hk) | hk) | hk
     ·omega
     ·exact y3 k hk
     ·omega
     ·exact y2 k hk
    clear k0 k1 k2 k3 k4 f0 f1 f2 f3 f4 hs11 hk11 hw11
    obtain ⟨⟨k0,k1,k2,k3,k4⟩,_⟩:=Zu HM11.out.abox
    obtain ⟨⟨x0,x1⟩,_⟩:=Yu HM11.out.box
    have hn2:al.length≤4:=h4
    go_wp2_with (at_builtin;refine Hid.out ?_)
    refine hid ?_
    refine cL (by rfl) _ _ _ (by rfl) (.agg #[.string ⟨#[]⟩,.int .i64 0,.int .i64 0,.string ⟨#[]⟩,.slice none 0 0]) 72 underlying38 Lj (by rfl) (by decide) (by rfl) HM11.out.rows (⟨a2.1,e4⟩:Ar) #[.string a2.1,.int .i64 e4.op,.int .i64 e4.n,.string e4.name,.slice E e4.kids.length d] _ (by rfl) (by rfl) (by simp [Value.oneCell']) HX11.out (by unfold maxLen;omega) (by omega) HM11.out.lt.2.2.2 ?_
    intro g3 cap3 w12 hG hS hg3
    have HW13:=hid (HM11.out.done hG hS hg3)
    have hbx:w12.heap[Kx]? = some (.cells #[.string a.1,.slice B al.length b] 97 (0,0)):=hS.heap (fun hc=>by have:=(HM11.out.rows.blk Kx (by simpa using hc)).1;have:=HM11.out.lt;omega) HM11.out.box
    clear hG hS hg3 k0 k1 k2 k3 k4 x0 x1
    obtain ⟨⟨x0,x1⟩,e0,e1⟩:=Yu hbx
    clear hbx
    go_wp2_with fail
    refine (eH T HW13.out.rdr ⟨#[44]⟩).mono ?_
    rw [HS.out.2.2.2.2.1]
    rintro e w14 ⟨rfl,hr14,hs14⟩
    have HW14:=hid (HW13.out.step hs14 hr14 (by have:=(bK T.fin ⟨#[44]⟩ (by decide) HW13.out.rdr.inr).1;rwa [HS.out.2.2.2.2.1] at this))
    clear hr14 hs14 x0 x1 e0 e1
    go_wp2_with fail
    go_roundg gk
    case measure=>omega
    case rel=>exact ⟨m,c6.1,some ⟨g2,0,none⟩,cap,some ⟨g3,0,none⟩,cap3,al++[⟨a2.1,e4⟩],_,c6.2,by simp,rfl,by have h:=HW14.out;simpa using h,by omega,by simp;omega,fun hc=>by have:=HS.out.2.2.2.2.2.2 hc;simpa using this,HS.out.2.2.2.2.2.1⟩
end Go.Proofs.YtgcfjkfipkfijaaGreatDoor
namespace Go.Proofs.YtgcfjkfipkfijaaGreatDoor
open Go Go.RowKit Go.Lib _root_.Go.Proofs.Tryz
def Ll (g:Nat) (A:Option Addr) (n c:Nat) (p:List Pc × RS) (w:World) (r:Ending) (w':World):Prop:=
 ∃B d,r=.returned (.slice B p.1.length d)∧aO rR (fun k=>k<w.heap.size) w' B d p.1∧zJ w' g A n c p.2∧Same [g] w w'
def rE (l:List bQ) (g:Nat) (A:Option Addr) (c:Nat) (m:Int) (nd:RS→Pc × RS):Prop:=
 ∀s w,mL l g A c w s→s.bad=0→m≤s.nodes→Calls prog 56 #[.pointer (some ⟨g,0,none⟩)] w (qZ g A l.length c (nd s) w)
structure zA (l:List bQ) (g:Nat) (A:Option Addr) (c:Nat) (w0 wr:World) (B:Option Addr) (b:Nat) (ps:List Pc) (xs:List (Pc × List Value)) (s:RS):Prop where
 rows:aR rR 91 w0.heap.size (fun k=>k<w0.heap.size) wr B ps.length b xs
 fst:xs.map (·.1)=ps
 lens:∀q,q∈xs→q.2.length=1
 rdr:mL l g A c wr s
 same:Same [g] w0 wr
 lt:g<w0.heap.size
 row:cN.Row [g] w0 A l
section
variable {l : List bQ} {g c b : Nat} {A B : Option Addr} {w0 wr w' : World} {ps : List Pc} {xs : List (Pc × List Value)} {s s' : RS}
theorem zA.step (h:zA l g A c w0 wr B b ps xs s) (hs:Same [g] wr w') (hr:zJ w' g A l.length c s') (hi:iY l s'):zA l g A c w0 w' B b ps xs s':=
 have hl:=h.lt
 ⟨h.rows.keep hs (fun k hk=>by simp at hk;show k<_;omega) (fun k hk e=>by simp at hk;have:=(h.rows.blk k e).1;omega),h.fst,h.lens,h.rdr.next hr hs hi,h.same.then_ hs,hl,h.row⟩
theorem zA.push {g3 cap3 w6 p v} (h:zA l g A c w0 wr B b ps xs s) (hG:aR rR 91 w0.heap.size (fun k=>k<w0.heap.size) w6 (some ⟨g3,0,none⟩) (ps.length+1) cap3 (xs++[(p,[v])])) (hS:Same (Value.slice B ps.length b).ownBlock.toList wr w6) :
  zA l g A c w0 w6 (some ⟨g3,0,none⟩) cap3 (ps++[p]) (xs++[(p,[v])]) s:=by
 have hl:=h.lt
 have hS0:Same [g] w0 w6:=h.same.trans hS (fun x hx=>.inr (h.rows.blk x (by simpa using hx)).1)
 refine ⟨by rw [O_];exact hG,by rw [f_,h.fst];rfl,fun q hq=>?_,⟨hS.heap (fun hc=>by have:=(h.rows.blk g (by simpa using hc)).1;omega) h.rdr.rd,h.row.keep hS0,h.rdr.cap,h.rdr.inr⟩,hS0,hl,h.row⟩
 rcases G_ hq with hq | hq
 ·exact h.lens q hq
 ·simp at hq;subst hq;rfl
theorem zA.post (h:zA l g A c w0 wr B b ps xs s):Ll g A l.length c (ps,s) w0 (.returned (.slice B ps.length b)) wr:=by
 have hr:=h.rows.out (fun _ h=>h) h.lens
 rw [h.fst] at hr
 exact ⟨B,b,rfl,hr,h.rdr.rd,h.same⟩
theorem Sc {M w p v} (h:rR.rep M w p [v]):∃t x,v=.iface t x:=by
 have h:=fC.1 h
 cases p with
 | row k us kids=>obtain ⟨_,_,_,_,h,_⟩:=h;injection h with h;exact ⟨_,_,h⟩
 | choice e a b=>obtain ⟨_,_,_,_,_,_,h,_⟩:=h;injection h with h;exact ⟨_,_,h⟩
 | step nm al=>obtain ⟨_,_,h,_⟩:=h;injection h with h;exact ⟨_,_,h⟩
end
theorem mW {l g c A s w m nd} (T:fZ l) (hn:rE l g A c m nd) (hon:fL l m nd) (h:mL l g A c w s) (hm:m≤s.nodes) :
  Calls prog 27 #[.pointer (some ⟨g,0,none⟩)] w (Ll g A l.length c (aL l nd s) w):=by
 obtain ⟨s1,h1⟩:=nm_ (bC l ⟨#[123]⟩ s)
 obtain ⟨c2,h2⟩:=nm_ (dB l nd 30 [] s1)
 have HX:Hid (aL l nd s=(c2.1,bC l ⟨#[125]⟩ c2.2)):=hid (by rw [←h2,←h1];rfl)
 have hon1:=aQ T.fin ⟨#[123]⟩ (by decide) h.inr
 rw [h1] at hon1
 have HQ:=hk_ h1 h2 hon1
 have H:=hid h
 have HN:=hid hn
 have HON:=hid hon
 have hm1:m≤s1.nodes:=k_ hm hon1.2
 have hg:=h.lt
 clear h h1 h2 hon1 hn hon hm
 go_enter func27,ntmps27
 go_wp2_with fail
 refine (gL T H.out ⟨#[123]⟩ (by decide)).mono ?_
 rw [HQ.out.1]
 rintro e w1 ⟨rfl,hr1,hs1⟩
 have HW1:Hid (zA l g A c w w1 none 0 [] [] s1):=hid ⟨aR.nil _ _ _ _ _,rfl,fun q hq=>by simp at hq,H.out.next hr1 hs1 HQ.out.2.2.1,hs1,hg,H.out.row⟩
 clear hr1 hs1
 go_wp2_with fail
 go_loopg [3] 32 (fun k s3 wr=>∃n B b ps xs s',s3=.slice B ps.length b∧zA l g A c w wr B b ps xs s'∧n<k∧n+ps.length=30∧(s'.bad=0→25 - s'.nodes≤n)∧m≤s'.nodes∧dB l nd n ps s'=c2)
 case atStart=>exact ⟨30,none,0,[],[],s1,rfl,HW1.out,by omega,rfl,fun _=>by have:=HW1.out.rdr.inr.2.2.1;omega,hm1,HQ.out.2.1⟩
 case round=>
  obtain ⟨n,B,b,ps,xs,s',rfl,hW,hnk,hnl,hfu,hms,hans⟩:=hrel
  obtain ⟨gk,rfl⟩:=pk_ gk 1 (by omega)
  have HW:=hid hW
  have HANS:=hid hans
  have HOK:=hid (mI hW.rdr)
  have HSG:=hid (qT hW.rdr ⟨#[125]⟩)
  have HFU:=hid hfu
  clear hW hans hfu
  by_cases hb:s'.bad=0
  ·have hbb:(s'.bad == 0)=true:=D_ hb
   rw [hbb] at HOK
   cases hi:bZ l ⟨#[125]⟩ s' with
   | true=>
    have hfin:(ps,s')=c2:=by
     have h:=HANS.out
     cases n with
     | zero=>exact h
     | succ n=>rw [dB,K_ (fun hc=>by rw [hi] at hc;exact absurd hc.2 (by decide))] at h;exact h
    have HF:=hid hfin
    rw [hi] at HSG
    clear hfin hb hbb hi
    go_wp2_with fail
    refine HOK.out.mono ?_
    rintro e w4 ⟨rfl,rfl⟩
    go_wp2_with fail
    refine HSG.out.mono ?_
    rintro e w4 ⟨rfl,hb4⟩
    have HW4:=hid (HW.out.step (Same.of_below hb4) (HW.out.rdr.step hb4).rd HW.out.rdr.inr)
    clear hb4
    go_wp2_with fail
    refine (gL T HW4.out.rdr ⟨#[125]⟩ (by decide)).mono ?_
    rintro e w5 ⟨rfl,hr5,hs5⟩
    have HW5:=hid (HW4.out.step hs5 hr5 (aQ T.fin ⟨#[125]⟩ (by decide) HW4.out.rdr.inr).1)
    clear hr5 hs5
    go_wp2_with fail
    go_ret
    rw [HX.out,←HF.out]
    exact HW5.out.post
   | false=>
    obtain ⟨k,rfl⟩:∃k,n=k+1:=⟨n - 1,by have:=HFU.out hb;have:=HW.out.rdr.inr.2.2.2.2 hb;omega⟩
    have hans:dB l nd k (ps++[(nd s').1]) (nd s').2=c2:=by
     have h:=HANS.out
     rw [dB,M_ ⟨hb,hi⟩] at h
     exact h
    have hno:=HON.out s' HW.out.rdr.inr hb hms
    have hfk:(nd s').2.bad=0→25 - (nd s').2.nodes≤k:=fun hc=>by have:=hno.2 hc;have:=HFU.out hb;omega
    have hnn:=fun W (hs:mL l g A c W s')=>HN.out s' W hs hb hms
    obtain ⟨⟨p,s5⟩,hp⟩:∃p,nd s'=p:=⟨_,rfl⟩
    rw [hp] at hans hno hfk hnn
    have HS:=hk_ hans hno hfk
    have HND:=hid hnn
    rw [hi] at HSG
    clear hans hno hfk hnn hp hb hbb hi
    go_wp2_with fail
    refine HOK.out.mono ?_
    rintro e w4 ⟨rfl,rfl⟩
    go_wp2_with fail
    refine HSG.out.mono ?_
    rintro e w4 ⟨rfl,hb4⟩
    have HW4:=hid (HW.out.step (Same.of_below hb4) (HW.out.rdr.step hb4).rd HW.out.rdr.inr)
    clear hb4
    go_wp2_with fail
    refine (HND.out w4 HW4.out.rdr).mono ?_
    rintro e w5 ⟨v,rfl,hv,hr5,hs5⟩
    have HW5:=hid (HW4.out.step hs5 hr5 HS.out.2.1.1.1)
    have HV:Hid (Av rR (fun k=>k<w.heap.size∨(Value.slice B ps.length b).ownBlock=some k) w5 p [v]):=hid (hv.more (fun k hk=>.inl (by
     have h1:=HW4.out.same.size
     rcases hk with hk | hk
     ·exact Y_ hk h1
     ·exact (HW4.out.rows.blk k hk).2)))
    obtain ⟨vt,vx,rfl⟩:=Sc (HV.out [] (fun k hk=>by simp at hk))
    clear hv hr5 hs5
    have hn30:ps.length≤30:=by omega
    go_wp2_with (at_builtin;refine Hid.out ?_)
    refine hid ?_
    refine cL (by rfl) _ _ _ (by rfl) .nilIface 16 underlying55 Wf (by rfl) (by decide) (by rfl) HW5.out.rows p #[.iface vt vx] _ (by rfl) (by rfl) (by simp [Value.oneCell']) HV.out (by unfold maxLen;omega) (by omega) HW5.out.same.size ?_
    intro g3 cap3 w6 hG hS hg3
    have HW6:=hid (HW5.out.push hG hS)
    clear hG hS hg3
    go_wp2_with fail
    go_roundg gk
    case measure=>omega
    case rel=>exact ⟨k,some ⟨g3,0,none⟩,cap3,ps++[p],xs++[(p,[.iface vt vx])],s5,by simp,HW6.out,by omega,by simp;omega,HS.out.2.2,k_ hms HS.out.2.1.1.2,HS.out.1⟩
  ·have hbb:(s'.bad == 0)=false:=A_ hb
   have hfin:(ps,s')=c2:=by
    have h:=HANS.out
    cases n with
    | zero=>exact h
    | succ n=>rw [dB,K_ (fun hc=>hb hc.1)] at h;exact h
   have HF:=hid hfin
   rw [hbb] at HOK
   clear hfin hb hbb
   go_wp2_with fail
   refine HOK.out.mono ?_
   rintro e w4 ⟨rfl,rfl⟩
   go_wp2_with fail
   refine (gL T HW.out.rdr ⟨#[125]⟩ (by decide)).mono ?_
   rintro e w5 ⟨rfl,hr5,hs5⟩
   have HW5:=hid (HW.out.step hs5 hr5 (aQ T.fin ⟨#[125]⟩ (by decide) HW.out.rdr.inr).1)
   clear hr5 hs5
   go_wp2_with fail
   go_ret
   rw [HX.out,←HF.out]
   exact HW5.out.post
end Go.Proofs.YtgcfjkfipkfijaaGreatDoor
namespace Go.Proofs.YtgcfjkfipkfijaaGreatDoor
open Go Go.RowKit Go.Lib _root_.Go.Proofs.Tryz
theorem bH {w:World} {k:Nat} {v0 v1 v2:Value} {t:TypeId} (h:w.heap[k]? = some (.cells #[v0,v1,v2] t (0,0))) :
  (w.cell? ⟨k,0,none⟩=some v0∧w.cell? ⟨k,1,none⟩=some v1∧w.cell? ⟨k,2,none⟩=some v2)∧w.frozen? ⟨k,0,none⟩=false∧w.frozen? ⟨k,1,none⟩=false∧w.frozen? ⟨k,2,none⟩=false:=
 ⟨⟨aB h 0,aB h 1,aB h 2⟩,aD h 0,aD h 1,aD h 2⟩
section
variable {l : List bQ} {g c : Nat} {A : Option Addr} {s : RS} {w : World} {m : Int} {nd : RS → Pc × RS}
structure zR (l:List bQ) (g:Nat) (A:Option Addr) (c:Nat) (w0 wr:World) (s:RS):Prop where
 rdr:mL l g A c wr s
 same:Same [g] w0 wr
 lt:g<w0.heap.size
 row:cN.Row [g] w0 A l
theorem zR.step {w0 wr w' s s'} (h:zR l g A c w0 wr s) (hs:Same [g] wr w') (hr:zJ w' g A l.length c s') (hi:iY l s'):zR l g A c w0 w' s':=⟨h.rdr.next hr hs hi,h.same.then_ hs,h.lt,h.row⟩
theorem zR.below {w0 wr w' s} (h:zR l g A c w0 wr s) (hb:Below wr.heap.size wr w'):zR l g A c w0 w' s:=h.step (Same.of_below hb) (h.rdr.step hb).rd h.rdr.inr
theorem zR.put {w0 wr w' s K} (h:zR l g A c w0 wr s) (hs:Same [K] wr w') (hK:w0.heap.size≤K):zR l g A c w0 w' s:=
 have hl:=h.lt
 have hs0:Same [g] w0 w':=h.same.trans hs (fun x hx=>by simp at hx;exact .inr (by omega))
 ⟨⟨hs.heap (by simp;omega) h.rdr.rd,h.row.keep hs0,h.rdr.cap,h.rdr.inr⟩,hs0,hl,h.row⟩
theorem Nr (T:fZ l) (h:mL l g A c w s) (y) (hy:eE (aE l s.at_)=y) (h1:dK y qS=false) (h2:dK y qH=false) (h3:dK y jP=false) (h4:dK y Bp=false) (h5:dK y fK=false) :
  Calls prog 56 #[.pointer (some ⟨g,0,none⟩)] w (qZ g A l.length c (.step ⟨#[]⟩ [],bB 11 s) w):=by
 have H:=hid h
 have HTK:=hid (dE h)
 have HKY:=hid (fun W=>mF (aE l s.at_) W (by have:=T.text s.at_;omega))
 rw [hy] at HKY
 obtain ⟨t,ht⟩:=nm_ (aE l s.at_)
 rw [ht] at HTK HKY
 have e1:(y.toList == [115,101,113])=false:=by rw [Lib.toList_data];exact h1
 have e2:(y.toList == [112,97,114])=false:=by rw [Lib.toList_data];exact h2
 have e3:(y.toList == [117,110,105,116])=false:=by rw [Lib.toList_data];exact h3
 have e4:(y.toList == [105,102])=false:=by rw [Lib.toList_data];exact h4
 have e5:(y.toList == [112,104,97,115,101])=false:=by rw [Lib.toList_data];exact h5
 clear h hy ht h1 h2 h3 h4 h5
 go_enter func56,ntmps56
 go_wp2_with fail
 refine HTK.out.mono ?_
 rintro e w1 ⟨rfl,hb1⟩
 have HB1:=hid hb1
 clear hb1
 go_wp2_with fail
 refine (HKY.out w1).mono ?_
 rintro e w2 ⟨rfl,hb2⟩
 have HB2:=tm_ HB1 hb2
 clear hb2
 go_wp2_with fail
 refine (iZ (H.out.step HB2.out) 11).mono ?_
 rintro e w3 ⟨rfl,hr3,hs3⟩
 have H3:=hj_ hr3 hs3
 clear hr3 hs3
 go_wp2_with fail
 go_ret
 exact ⟨_,rfl,Av.step (al:=[]) (aO.nil _ _ _ none 0),H3.out.1,(Same.of_below HB2.out).then_ H3.out.2⟩
theorem Ie (T:fZ l) (h:mL l g A c w s) (hb:s.bad=0) (hy:eE (aE l s.at_)=fK) :
  Calls prog 56 #[.pointer (some ⟨g,0,none⟩)] w (qZ g A l.length c (lK l (aF l fK (aU 1 s)).2) w):=by
 have HN:Hid (zR l g A c w w s):=hid ⟨h,Same.refl _ _,h.lt,h.row⟩
 have HTK:=hid (dE h)
 have HKY:=hid (fun W=>mF (aE l s.at_) W (by have:=T.text s.at_;omega))
 rw [hy,show fK=⟨#[112,104,97,115,101]⟩ from rfl] at HKY
 have HBG:=hid (iB 1 (by decide) (by decide) hb h.inr)
 obtain ⟨t,ht⟩:=nm_ (aE l s.at_)
 rw [ht] at HTK HKY
 clear h hy ht hb
 go_enter func56,ntmps56
 go_wp2_with fail
 refine HTK.out.mono ?_
 rintro e w1 ⟨rfl,hb1⟩
 have HN1:=hid (HN.out.below hb1)
 clear hb1
 go_wp2_with fail
 refine (HKY.out w1).mono ?_
 rintro e w2 ⟨rfl,hb2⟩
 have HN2:=hid (HN1.out.below hb2)
 clear hb2
 go_wp2_with fail
 refine (pS HN2.out.rdr 1 (by decide) (by decide)).mono ?_
 rintro e w3 ⟨rfl,hr3,hs3⟩
 have HN3:=hid (HN2.out.step hs3 hr3 HBG.out.1.1)
 clear hr3 hs3
 go_wp2_with fail
 refine (eH T HN3.out.rdr fK).mono ?_
 rintro e w4 ⟨rfl,hr4,hs4⟩
 have HN4:=hid (HN3.out.step hs4 hr4 (bK T.fin fK (by decide) HN3.out.rdr.inr).1)
 clear hr4 hs4
 go_wp2_with fail
 refine (Sb T HN4.out.rdr).mono ?_
 rintro e w5 ⟨v,rfl,hv,hr5,hs5⟩
 have H5:=hk_ hv hr5 hs5
 clear hv hr5 hs5
 go_wp2_with fail
 go_ret
 exact ⟨v,rfl,H5.out.1.more (fun k hk=>.inl (Y_ hk HN4.out.same.size)),H5.out.2.1,HN4.out.same.then_ H5.out.2.2⟩
theorem Ei (T:fZ l) (hn:rE l g A c (m+1) nd) (hon:fL l (m+1) nd) (h:mL l g A c w s) (hb:s.bad=0) (hm:m≤s.nodes) (y k) (hyk:y=⟨#[115,101,113]⟩∧k=0∨y=⟨#[112,97,114]⟩∧k=1) (hy:eE (aE l s.at_)=y) :
  Calls prog 56 #[.pointer (some ⟨g,0,none⟩)] w (qZ g A l.length c (.row k [] (aL l nd (aF l y (aU 1 s)).2).1,(aL l nd (aF l y (aU 1 s)).2).2) w):=by
 have HN:Hid (zR l g A c w w s):=hid ⟨h,Same.refl _ _,h.lt,h.row⟩
 have HTK:=hid (dE h)
 have HKY:=hid (fun W=>mF (aE l s.at_) W (by have:=T.text s.at_;omega))
 have HBG:=hid (iB 1 (by decide) (by decide) hb h.inr)
 have hy0:y.size≠0:=by rcases hyk with ⟨rfl,_⟩ | ⟨rfl,_⟩ <;> decide
 rw [hy] at HKY
 obtain ⟨s4,h4⟩:=nm_ ((aF l y (aU 1 s)).2)
 have hon4:=bK T.fin y hy0 HBG.out.1.1
 rw [h4] at hon4 ⊢
 obtain ⟨⟨ks,s5⟩,h5⟩:∃x,aL l nd s4=x:=⟨_,rfl⟩
 have hm4:m+1≤s4.nodes:=by have:=HBG.out.2;have:=hon4.2;omega
 have hon5:=dW T.fin hon hon4.1 hm4
 have HBL:=hid (fun W (hr:mL l g A c W s4)=>mW T hn hon hr hm4)
 rw [h5] at HBL hon5 ⊢
 have HS:=hk_ h4 hon4 hon5
 obtain ⟨t,ht⟩:=nm_ (aE l s.at_)
 rw [ht] at HTK HKY
 clear h hy ht hb hn hon hm h4 h5 hon4 hon5 hm4 hy0
 rcases hyk with ⟨rfl,rfl⟩ | ⟨rfl,rfl⟩
 all_goals
  go_enter func56,ntmps56
  go_wp2_with fail
  refine HTK.out.mono ?_
  rintro e w1 ⟨rfl,hb1⟩
  have HN1:=hid (HN.out.below hb1)
  clear hb1
  go_wp2_with fail
  refine (HKY.out w1).mono ?_
  rintro e w2 ⟨rfl,hb2⟩
  have HN2:=hid (HN1.out.below hb2)
  clear hb2
  go_wp2_with fail
  refine (pS HN2.out.rdr 1 (by decide) (by decide)).mono ?_
  rintro e w3 ⟨rfl,hr3,hs3⟩
  have HN3:=hid (HN2.out.step hs3 hr3 HBG.out.1.1)
  clear hr3 hs3
  go_wp2_with fail
  refine (eH T HN3.out.rdr _).mono ?_
  rw [HS.out.1]
  rintro e w4 ⟨rfl,hr4,hs4⟩
  have HN4:=hid (HN3.out.step hs4 hr4 HS.out.2.1.1)
  clear hr4 hs4
  go_upto_region 8 with fail
  obtain ⟨K,hK⟩:=nm_ w4.heap.size
  obtain ⟨w5,hw5,hb5,_⟩:=alo_ w4 (.cells #[.int .i64 0,.slice none 0 0,.slice none 0 0] 58 (0,0))
  have hk5:w5.heap[K]? = some (.cells #[.int .i64 0,.slice none 0 0,.slice none 0 0] 58 (0,0)):=by rw [←hK,←hw5];exact I_ _ _
  rw [hw5,hK]
  have HN5:=hid (HN4.out.below hb5)
  have hKw:w.heap.size≤K:=by rw [←hK];exact HN4.out.same.size
  have hKg:K≠g:=by have:=HN4.out.lt;omega
  obtain ⟨⟨k0,k1,k2⟩,f0,f1,f2⟩:=bH hk5
  have HK5:=hid hk5
  have HC:=hid (fun x=>(⟨HN5.out.put ((Same.refl [K] w5).setCell (p:=⟨K,0,none⟩) (.inl (by simp)) x) hKw,aZ hk5 0 x⟩:_∧_))
  have hk4:K<w5.heap.size:=aC hk5
  clear hb5 hw5 hK hk5
  go_wp2_with fail
  refine (HBL.out _ ?_).mono ?_
  ·first | exact HN5.out.rdr | exact (HC.out _).1.rdr
  rintro e w6 ⟨B,d,rfl,hx6,hr6,hs6⟩
  simp only at hx6
  have HN6:Hid (zR l g A c w w6 s5):=hid (by first | exact HN5.out.step hs6 hr6 HS.out.2.2.1 | exact (HC.out _).1.step hs6 hr6 HS.out.2.2.1)
  have hk6:=hs6.heap (k:=K) (by simp;exact hKg) (by first | exact HK5.out | exact (HC.out _).2)
  have HX6:=hid hx6
  have HK6:=hid hk6
  clear hx6 hr6 hs6 k0 k1 k2 f0 f1 f2
  obtain ⟨⟨k0,k1,k2⟩,f0,f1,f2⟩:=bH HK6.out
  clear hk6
  go_wp2_with fail
  go_ret
  have hsK:Same [K] w6 (w6.setCell ⟨K,2,none⟩ (.slice B ks.length d)):=(Same.refl [K] w6).setCell (.inl (by simp)) _
  have HN7:=HN6.out.put hsK hKw
  refine ⟨_,rfl,Av.row (us:=[]) (uc:=0) (aO.nil _ _ _ none 0) ((HX6.out.keep hsK (fun k hk=>by simp at hk;subst hk;first | omega | (simp [World.setCell];omega))).more (fun k hk=>.inl (by first | omega | (simp [World.setCell];omega)))),HN7.rdr.rd,HN7.same⟩
end
end Go.Proofs.YtgcfjkfipkfijaaGreatDoor
namespace Go.Proofs.YtgcfjkfipkfijaaGreatDoor
open Go Go.RowKit Go.Lib _root_.Go.Proofs.Tryz
abbrev wK (e:Ex) (E:Option Addr) (d:Nat) (a b:Value):Obj:=.cells #[.int .i64 e.op,.int .i64 e.n,.string e.name,.slice E e.kids.length d,.int .i64 0,.slice none 0 0,a,.int .i64 0,.slice none 0 0,b] 95 (0,0)
theorem Sd {w:World} {k:Nat} {v0 v1 v2 v3 v4 v5 v6 v7 v8 v9:Value} {t:TypeId} (h:w.heap[k]? = some (.cells #[v0,v1,v2,v3,v4,v5,v6,v7,v8,v9] t (0,0))) :
  (w.cell? ⟨k,0,none⟩=some v0∧w.cell? ⟨k,1,none⟩=some v1∧w.cell? ⟨k,2,none⟩=some v2∧w.cell? ⟨k,3,none⟩=some v3∧w.cell? ⟨k,4,none⟩=some v4∧w.cell? ⟨k,5,none⟩=some v5∧w.cell? ⟨k,6,none⟩=some v6∧w.cell? ⟨k,7,none⟩=some v7∧w.cell? ⟨k,8,none⟩=some v8∧w.cell? ⟨k,9,none⟩=some v9) ∧
    w.frozen? ⟨k,6,none⟩=false∧w.frozen? ⟨k,9,none⟩=false:=
 ⟨⟨aB h 0,aB h 1,aB h 2,aB h 3,aB h 4,aB h 5,aB h 6,aB h 7,aB h 8,aB h 9⟩,aD h 6,aD h 9⟩
section
variable {l : List bQ} {g c : Nat} {A : Option Addr} {s : RS} {w : World} {m : Int} {nd : RS → Pc × RS}
theorem Wi (T:fZ l) (hn:rE l g A c (m+1) nd) (hon:fL l (m+1) nd) (h:mL l g A c w s) (hb:s.bad=0) (hm:m≤s.nodes) (hy:eE (aE l s.at_)=Bp) :
    Calls prog 56 #[.pointer (some ⟨g,0,none⟩)] w (qZ g A l.length c
      (let e:=dZ l (aF l Bp (aU 3 s)).2
       let a:=aL l nd e.2
       let c:=aF l gF a.2
       if c.1=true then (.choice e.1 a.1 (aL l nd c.2).1,(aL l nd c.2).2) else (.choice e.1 a.1 [],c.2)) w):=by
  have HN:Hid (zR l g A c w w s):=hid ⟨h,Same.refl _ _,h.lt,h.row⟩
  have HTK:=hid (dE h)
  have HKY:=hid (fun W=>mF (aE l s.at_) W (by have:=T.text s.at_;omega))
  rw [hy,show Bp=⟨#[105,102]⟩ from rfl] at HKY
  have HBG:=hid (iB 3 (by decide) (by decide) hb h.inr)
  obtain ⟨s4,h4⟩:=nm_ ((aF l Bp (aU 3 s)).2)
  have hon4:=bK T.fin Bp (by decide) HBG.out.1.1
  obtain ⟨⟨e5,s5⟩,h5⟩:∃x,dZ l s4=x:=⟨_,rfl⟩
  rw [h4] at hon4
  have hon5:=hon4.trans (lM T.take hon4.1)
  rw [h5] at hon5
  simp only at hon5
  have hm5:m+1≤s5.nodes:=by have:=HBG.out.2;have:=hon5.2;omega
  obtain ⟨⟨ks,s6⟩,h6⟩:∃x,aL l nd s5=x:=⟨_,rfl⟩
  have hon6:=dW T.fin hon hon5.1 hm5
  have HBL:=hid (fun W (hr:mL l g A c W s5)=>mW T hn hon hr hm5)
  rw [h6] at hon6 HBL
  simp only at hon6
  obtain ⟨⟨q7,s7⟩,h7⟩:∃x,aF l gF s6=x:=⟨_,rfl⟩
  have hon7:=hon6.trans (bK T.fin gF (by decide) hon6.1)
  rw [h7] at hon7
  simp only at hon7
  have hm7:m+1≤s7.nodes:=by have:=hon7.2;omega
  obtain ⟨⟨ks8,s8⟩,h8⟩:∃x,aL l nd s7=x:=⟨_,rfl⟩
  have hon8:=dW T.fin hon hon7.1 hm7
  have HBL8:=hid (fun W (hr:mL l g A c W s7)=>mW T hn hon hr hm7)
  rw [h8] at hon8 HBL8
  simp only at hon8
  have hans:(let e:=dZ l (aF l Bp (aU 3 s)).2
       let a:=aL l nd e.2
       let c:=aF l gF a.2
       if c.1=true then ((.choice e.1 a.1 (aL l nd c.2).1:Pc),(aL l nd c.2).2) else (.choice e.1 a.1 [],c.2))=if q7=true then (.choice e5 ks ks8,s8) else (.choice e5 ks [],s7):=by
    simp only [h4,h5,h6,h7,h8]
  rw [hans]
  obtain ⟨ANS,hA⟩:=nm_ (if q7=true then ((.choice e5 ks ks8:Pc),s8) else (.choice e5 ks [],s7))
  rw [hA]
  have HA:=hid hA
  have HS:=hid (⟨h4,h5,hon4,hon5.1,hon6.1,h7,hon7.1,hon8.1⟩:_∧_∧_∧_∧_∧_∧_∧_)
  obtain ⟨t,ht⟩:=nm_ (aE l s.at_)
  rw [ht] at HTK HKY
  clear h hy ht hb hn hon hm h4 h5 h6 h7 h8 hon4 hon5 hon6 hon7 hon8 hm5 hm7 hans hA
  go_enter func56,ntmps56
  go_wp2_with fail
  refine HTK.out.mono ?_
  rintro e w1 ⟨rfl,hb1⟩
  have HN1:=hid (HN.out.below hb1)
  clear hb1
  go_wp2_with fail
  refine (HKY.out w1).mono ?_
  rintro e w2 ⟨rfl,hb2⟩
  have HN2:=hid (HN1.out.below hb2)
  clear hb2
  go_wp2_with fail
  refine (pS HN2.out.rdr 3 (by decide) (by decide)).mono ?_
  rintro e w3 ⟨rfl,hr3,hs3⟩
  have HN3:=hid (HN2.out.step hs3 hr3 HBG.out.1.1)
  clear hr3 hs3
  go_wp2_with fail
  refine (eH T HN3.out.rdr Bp).mono ?_
  rw [HS.out.1]
  rintro e w4 ⟨rfl,hr4,hs4⟩
  have HN4:=hid (HN3.out.step hs4 hr4 HS.out.2.2.1.1)
  clear hr4 hs4
  go_wp2_with fail
  refine (zL T HN4.out.rdr).mono ?_
  rw [HS.out.2.1]
  rintro e w5 ⟨E,d,rfl,hx5,hr5,hs5⟩
  simp only at hx5
  have HN5:=hid (HN4.out.step hs5 hr5 HS.out.2.2.2.1)
  clear hr5
  go_upto_region 25 with fail
  obtain ⟨K,hK⟩:=nm_ w5.heap.size
  obtain ⟨w6,hw6,hb6,_⟩:=alo_ w5 (wK e5 E d (.slice none 0 0) (.slice none 0 0))
  have hk6:w6.heap[K]? = some (wK e5 E d (.slice none 0 0) (.slice none 0 0)):=by rw [←hK,←hw6];exact I_ _ _
  rw [hw6,hK]
  have HN6:=hid (HN5.out.below hb6)
  have hKw:w.heap.size≤K:=by rw [←hK];exact HN5.out.same.size
  have hKg:K≠g:=by have:=HN5.out.lt;omega
  have HX6:Hid (cR (fun k=>k<w.heap.size∨k=K) w6 e5 E d):=hid ((hx5.more (fun k hk=>hk.elim (fun hk=>.inl (Y_ hk HN4.out.same.size)) (fun e=>.inr (by omega)))).below hb6)
  have hk6l:K<w6.heap.size:=aC hk6
  have HK6:=hid hk6
  clear hb6 hw6 hK hk6 hx5 hs5
  go_wp2_with fail
  refine (HBL.out w6 HN6.out.rdr).mono ?_
  rintro e w7 ⟨B,b,rfl,hx7,hr7,hs7⟩
  simp only at hx7
  have HN7:=hid (HN6.out.step hs7 hr7 HS.out.2.2.2.2.1)
  have hk7:=hs7.heap (k:=K) (by simp;exact hKg) HK6.out
  have hg:=HN.out.lt
  have hsz7:=hs7.size
  have HX7:=hid (HX6.out.keep hs7 (fun k hk=>by simp at hk;exact .inl (by omega)))
  have hs8:Same [K] w7 (w7.setCell ⟨K,6,none⟩ (.slice B ks.length b)):=(Same.refl [K] w7).setCell (.inl (by simp)) _
  have HN8:=hid (HN7.out.put hs8 hKw)
  have HK8:Hid ((w7.setCell ⟨K,6,none⟩ (.slice B ks.length b)).heap[K]? = some (wK e5 E d (.slice B ks.length b) (.slice none 0 0))):=hid (aZ hk7 6 _)
  have HX8:=hid (HX7.out.keep hs8 (fun k hk=>by simp at hk;exact .inr hk))
  have HA8:Hid (aO rR (fun k=>k<w.heap.size∨k=K) (w7.setCell ⟨K,6,none⟩ (.slice B ks.length b)) B b ks):=hid ((hx7.keep hs8 (fun k hk=>by simp at hk;omega)).more (fun k hk=>.inl (by have:=HN6.out.same.size;omega)))
  obtain ⟨⟨k0,k1,k2,k3,k4,k5,k6,k7,k8,k9⟩,f6,f9⟩:=Sd hk7
  clear hx7 hr7 hs7 hk7 hs8
  have H8:=hid (eH T HN8.out.rdr gF)
  rw [HS.out.2.2.2.2.2.1] at H8
  cases q7 with
  | false=>
    go_wp2_with fail
    refine H8.out.mono ?_
    rintro e w9 ⟨rfl,hr9,hs9⟩
    have HN9:=hid (HN8.out.step hs9 hr9 HS.out.2.2.2.2.2.2.1)
    have hk9:=hs9.heap (k:=K) (by simp;exact hKg) HK8.out
    have HX9:=hid (HX8.out.keep hs9 (fun k hk=>by simp at hk;exact .inl (by omega)))
    have HA9:=hid (HA8.out.keep hs9 (fun k hk=>by simp at hk;exact .inl (by omega)))
    clear hr9 hs9 k0 k1 k2 k3 k4 k5 k6 k7 k8 k9 f6 f9
    obtain ⟨⟨k0,k1,k2,k3,k4,k5,k6,k7,k8,k9⟩,f6,f9⟩:=Sd hk9
    clear hk9
    go_wp2_with fail
    go_ret
    rw [←HA.out,K_ (by decide)]
    exact ⟨_,rfl,Av.choice (b:=[]) (bc:=0) (HX9.out.more (fun k hk=>.inl (.inl hk))) (HA9.out.more (fun k hk=>.inl (.inl hk))) (aO.nil _ _ _ none 0),HN9.out.rdr.rd,HN9.out.same⟩
  | true=>
    go_wp2_with fail
    refine H8.out.mono ?_
    rintro e w9 ⟨rfl,hr9,hs9⟩
    have HN9:=hid (HN8.out.step hs9 hr9 HS.out.2.2.2.2.2.2.1)
    have hk9:=hs9.heap (k:=K) (by simp;exact hKg) HK8.out
    have HX9:=hid (HX8.out.keep hs9 (fun k hk=>by simp at hk;exact .inl (by omega)))
    have HA9:=hid (HA8.out.keep hs9 (fun k hk=>by simp at hk;exact .inl (by omega)))
    have HK9:=hid hk9
    have hk9l:K<w9.heap.size:=aC hk9
    clear hr9 hs9 k0 k1 k2 k3 k4 k5 k6 k7 k8 k9 f6 f9 hk9
    go_wp2_with fail
    refine (HBL8.out w9 HN9.out.rdr).mono ?_
    rintro e w10 ⟨B2,b2,rfl,hx10,hr10,hs10⟩
    simp only at hx10
    have HN10:=hid (HN9.out.step hs10 hr10 HS.out.2.2.2.2.2.2.2)
    have hk10:=hs10.heap (k:=K) (by simp;exact hKg) HK9.out
    have HX10:=hid (HX9.out.keep hs10 (fun k hk=>by simp at hk;exact .inl (by omega)))
    have HA10:=hid (HA9.out.keep hs10 (fun k hk=>by simp at hk;exact .inl (by omega)))
    have HB10:=hid hx10
    have hsz10:=HN9.out.same.size
    obtain ⟨⟨k0,k1,k2,k3,k4,k5,k6,k7,k8,k9⟩,f6,f9⟩:=Sd hk10
    clear hx10 hr10 hs10 hk10
    go_wp2_with fail
    go_ret
    rw [←HA.out,M_ trivial]
    have hs11:Same [K] w10 (w10.setCell ⟨K,9,none⟩ (.slice B2 ks8.length b2)):=(Same.refl [K] w10).setCell (.inl (by simp)) _
    have HN11:=HN10.out.put hs11 hKw
    exact ⟨_,rfl,Av.choice ((HX10.out.keep hs11 (fun k hk=>by simp at hk;exact .inr hk)).more (fun k hk=>.inl (.inl hk))) ((HA10.out.keep hs11 (fun k hk=>by simp at hk;exact .inr hk)).more (fun k hk=>.inl (.inl hk))) ((HB10.out.keep hs11 (fun k hk=>by simp at hk;omega)).more (fun k hk=>.inl (by omega))),HN11.rdr.rd,HN11.same⟩
end
end Go.Proofs.YtgcfjkfipkfijaaGreatDoor
namespace Go.Proofs.YtgcfjkfipkfijaaGreatDoor
open Go Go.RowKit Go.Lib _root_.Go.Proofs.Tryz
theorem zS {α:Type} {Pr ops o a K Q} {E:Prop} {d e b0 P w B n b xs} (hgd:o.guard=none) (s x t) (ho:o.op=.call { callee:=.builtin .append,args:=#[s,x],argTypes:=#[t,t] }) (z bytes) (ht:Pr.underlying t=some (.slice e)) (hi:(Pr.info? e).map (fun i=>(i.zero,i.size,i.bytes))=some (some z,d.sz,bytes)) (hzs:z.cells.size=d.sz) (hsz:0<d.sz) (hs:a.eval s=.slice B n b) (h:aR d e b0 P w B n b xs) (y:α) (cs ty) (hx:a.eval x=.slice (some ⟨w.heap.size,0,none⟩) 1 1) (hl:cs.size=d.sz) (h1:∀u∈cs.toList,u.oneCell'=true) (hy:Av d (fun k=>P k∨(Value.slice B n b).ownBlock=some k) w y cs.toList) (h63:n+1≤maxLen) (hbytes:(n+1)*bytes≤140737488355328) (hb0:b0≤w.heap.size) (k:∀g cap w',aR d e b0 P w' (some ⟨g,0,none⟩) (n+1) cap (xs++[(y,cs.toList)])→Same (Value.slice B n b).ownBlock.toList w w'→b0≤g∧g<w'.heap.size∧((Value.slice B n b).ownBlock=some g∨w.heap.size<g) →
    K (a.put o.dst (.slice (some ⟨g,0,none⟩) (n+1) cap)) w'):if Region.wanted o (yielded ops a.tmps)=true then Oper.wp Pr o a (w.alloc (.cells cs ty)) K Q else E:=by
 obtain ⟨i0,hi0,hz0,hz1,hz2⟩:=info_parts hi
 refine step_append_lies _ hgd s x t ho b0 e i0 z d.sz bytes ht hi0 hz0 hz1 hz2 hzs hsz (.slice B n b) n (xs.flatMap (·.2)) hs (h.own.alloc _) ⟨w.heap.size,0,none⟩ 1 1 cs.toList hx (by rw [Nat.one_mul];simpa using hl) ?_ h1 (by decide) h63 hbytes (by simp;omega) (w.heap.size+1) (by simp) ?_
 ·intro j u hu
  have:=aB (I_ w (.cells cs ty)) j
  have e:(⟨w.heap.size,0,none⟩:Addr).add j=⟨w.heap.size,j,none⟩:=by unfold Addr.add;split <;> simp_all
  rw [e,this]
  simpa using hu
 ·intro g cap w6 hown hg hat hlt
  have hgb:=aS hown g rfl
  have hs6:Same (Value.slice B n b).ownBlock.toList w w6:=((Same.refl _ w).alloc _).grown hg (fun k hk=>.inl (by rw [hk];simp))
  exact k g cap w6 (h.push hy hg hown hat) hs6 ⟨hgb.1,hgb.2,hat.imp id (fun e=>by omega)⟩
theorem Ej {w b0 U P x t} (h:w.heap[U]? = some (.cells #[.string x] t (0,0))) (hU:b0≤U):aR aN.str t b0 P w (some ⟨U,0,none⟩) 1 1 ([x].map sE):=
 ⟨rfl,⟨rfl,.inr ⟨U,1,#[.string x],rfl,hU,h,H_ _,by unfold maxLen;decide,rfl,rfl⟩⟩,fun q hq=>by simp at hq;subst hq;exact Av.str _ _ _⟩
theorem aR.row {T b0 P w B n b ss} (h:aR aN.str T b0 P w B n b (ss.map sE)) (hP:∀k,P k→k<b0):aO aN.str P w B b ss:=by
 have h1:=h.out hP (fun q hq=>by obtain ⟨p,_,rfl⟩:=List.mem_map.1 hq;rfl)
 rwa [List.map_map,show ((fun q:ByteArray × List Value=>q.1) ∘ sE)=id from rfl,List.map_id] at h1
structure Yi (l:List bQ) (g:Nat) (A:Option Addr) (c:Nat) (w0:World) (b0 K:Nat) (wr:World) (U:Option Addr) (u:Nat) (us:List ByteArray) (s:RS):Prop where
 nd:zR l g A c w0 wr s
 rows:aR aN.str 9 b0 (fun k=>k<b0) wr U us.length u (us.map sE)
 box:wr.heap[K]? = some (.cells #[.int .i64 2,.slice U us.length u,.slice none 0 0] 58 (0,0))
 far:w0.heap.size≤b0∧b0≤K∧(Value.slice U us.length u).ownBlock≠some K∧b0≤wr.heap.size
section
variable {l : List bQ} {g c b0 K u : Nat} {A U : Option Addr} {s s' : RS} {w w0 wr w' : World} {us : List ByteArray} {m : Int} {nd : RS → Pc × RS}
theorem Yi.step (h:Yi l g A c w0 b0 K wr U u us s) (hs:Same [g] wr w') (hr:zJ w' g A l.length c s') (hi:iY l s'):Yi l g A c w0 b0 K w' U u us s':=
 have hl:=h.nd.lt
 have hf:=h.far
 ⟨h.nd.step hs hr hi,h.rows.keepS hs (fun k hk e=>by simp at hk;have:=(h.rows.blk k e).1;omega),hs.heap (by simp;omega) h.box,hf.1,hf.2.1,hf.2.2.1,d_ hf.2.2.2 hs.size⟩
theorem Yi.push {g2 cap w6 x} (h:Yi l g A c w0 b0 K wr U u us s) (hG:aR aN.str 9 b0 (fun k=>k<b0) w6 (some ⟨g2,0,none⟩) (us.length+1) cap (us.map sE++[(x,[.string x])])) (hS:Same (Value.slice U us.length u).ownBlock.toList wr w6) (hg2:b0≤g2∧g2<w6.heap.size∧((Value.slice U us.length u).ownBlock=some g2∨wr.heap.size<g2)):Yi l g A c w0 b0 K (w6.setCell ⟨K,1,none⟩ (.slice (some ⟨g2,0,none⟩) (us.length+1) cap)) (some ⟨g2,0,none⟩) cap (us++[x]) s:=by
 have hl:=h.nd.lt
 have hf:=h.far
 have hK:=aC h.box
 have hlen:(us++[x]).length=us.length+1:=by simp
 have hno:∀k,k<b0→k∉(Value.slice U us.length u).ownBlock.toList:=fun k hk hc=>by have:=(h.rows.blk k (by simpa using hc)).1;omega
 have hS0:Same [g] w0 w6:=h.nd.same.trans hS (fun y hy=>.inr (by have:=(h.rows.blk y (by simpa using hy)).1;omega))
 have hb6:w6.heap[K]? = some (.cells #[.int .i64 2,.slice U us.length u,.slice none 0 0] 58 (0,0)):=hS.heap (fun hc=>hf.2.2.1 (by simpa using hc)) h.box
 have hX:Same [K] w6 (w6.setCell ⟨K,1,none⟩ (.slice (some ⟨g2,0,none⟩) (us.length+1) cap)):=(Same.refl [K] w6).setCell (.inl (by simp)) _
 have hgk:g2≠K:=by
  rcases hg2.2.2 with h1 | h1
  ·intro e;subst e;exact hf.2.2.1 h1
  ·omega
 have hN6:zR l g A c w0 w6 s:=⟨⟨hS.heap (hno g (by omega)) h.nd.rdr.rd,h.nd.row.keep hS0,h.nd.rdr.cap,h.nd.rdr.inr⟩,hS0,hl,h.nd.row⟩
 refine ⟨hN6.put hX (by omega),?_,by rw [hlen];exact aZ hb6 1 _,hf.1,hf.2.1,?_,d_ hf.2.2.2 (d_ hS.size hX.size)⟩
 ·rw [hlen,f_]
  refine aR.keepV hG (fun q hq P w=>?_) hX (fun k hk e=>?_)
  ·rcases G_ hq with hq | hq
   ·obtain ⟨p,_,rfl⟩:=List.mem_map.1 hq;exact Av.str P w p
   ·simp at hq;subst hq;exact Av.str P w x
  ·simp at hk;subst hk
   have:some g2=some k:=e
   exact hgk (e_ this)
 ·intro e
  have:some g2=some K:=e
  exact hgk (e_ this)
theorem Ns (T:fZ l) (hn:rE l g A c (m+1) nd) (hon:fL l (m+1) nd) (h:mL l g A c w s) (hb:s.bad=0) (hm:m≤s.nodes) (hy:eE (aE l s.at_)=jP) :
    Calls prog 56 #[.pointer (some ⟨g,0,none⟩)] w (qZ g A l.length c
      (let a:=bG l [] (aF l jP (aU 1 s)).2
       let u:=fD l 8 [a.1] a.2
       let b:=aL l nd u.2
       (.row 2 u.1 b.1,b.2)) w):=by
  have HN:Hid (zR l g A c w w s):=hid ⟨h,Same.refl _ _,h.lt,h.row⟩
  have HTK:=hid (dE h)
  have HKY:=hid (fun W=>mF (aE l s.at_) W (by have:=T.text s.at_;omega))
  rw [hy,show jP=⟨#[117,110,105,116]⟩ from rfl] at HKY
  have HBG:=hid (iB 1 (by decide) (by decide) hb h.inr)
  obtain ⟨s4,h4⟩:=nm_ ((aF l jP (aU 1 s)).2)
  have hon4:=bK T.fin jP (by decide) HBG.out.1.1
  rw [h4] at hon4
  obtain ⟨⟨a5,s5⟩,h5⟩:∃x,bG l [] s4=x:=⟨_,rfl⟩
  have hon5:=hon4.trans (cT T.fin [] hon4.1)
  rw [h5] at hon5
  simp only at hon5
  obtain ⟨⟨us6,s6⟩,h6⟩:∃x,fD l 8 [a5] s5=x:=⟨_,rfl⟩
  have hon6:=hon5.trans (oW T.fin 8 [a5] s5 hon5.1)
  rw [h6] at hon6
  simp only at hon6
  have hm6:m+1≤s6.nodes:=by have:=HBG.out.2;have:=hon6.2;omega
  obtain ⟨⟨ks,s7⟩,h7⟩:∃x,aL l nd s6=x:=⟨_,rfl⟩
  have hon7:=dW T.fin hon hon6.1 hm6
  have HBL:=hid (fun W (hr:mL l g A c W s6)=>mW T hn hon hr hm6)
  rw [h7] at hon7 HBL
  simp only at hon7
  simp only [h4,h5,h6,h7]
  have HS:=hid (⟨h4,h5,hon4.1,hon5.1,h6,hon7.1⟩:_∧_∧_∧_∧_∧_)
  obtain ⟨t,ht⟩:=nm_ (aE l s.at_)
  rw [ht] at HTK HKY
  clear h hy ht hb hn hon hm h4 h5 h6 h7 hon4 hon5 hon6 hon7 hm6
  go_enter func56,ntmps56
  go_wp2_with fail
  refine HTK.out.mono ?_
  rintro e w1 ⟨rfl,hb1⟩
  have HN1:=hid (HN.out.below hb1)
  clear hb1
  go_wp2_with fail
  refine (HKY.out w1).mono ?_
  rintro e w2 ⟨rfl,hb2⟩
  have HN2:=hid (HN1.out.below hb2)
  clear hb2
  go_wp2_with fail
  refine (pS HN2.out.rdr 1 (by decide) (by decide)).mono ?_
  rintro e w3 ⟨rfl,hr3,hs3⟩
  have HN3:=hid (HN2.out.step hs3 hr3 HBG.out.1.1)
  clear hr3 hs3
  go_wp2_with fail
  refine (eH T HN3.out.rdr jP).mono ?_
  rw [HS.out.1]
  rintro e w4 ⟨rfl,hr4,hs4⟩
  have HN4:=hid (HN3.out.step hs4 hr4 HS.out.2.2.1)
  clear hr4 hs4
  go_wp2_with fail
  refine (kU T HN4.out.rdr (cc:=0) (mJ.nil w4 none)).mono ?_
  rw [HS.out.2.1]
  rintro e w5 ⟨rfl,hr5,hs5⟩
  have HN5:=hid (HN4.out.step hs5 hr5 HS.out.2.2.2.1)
  clear hr5 hs5
  go_wp2_with fail
  obtain ⟨b0,hb0⟩:=nm_ w5.heap.size
  rw [hb0]
  obtain ⟨w6,hw6⟩:=nm_ ((w5.alloc (.cells #[.string a5] 9 (0,0))).alloc (.cells #[.int .i64 2,.slice (some ⟨b0,0,none⟩) 1 1,.slice none 0 0] 58 (0,0)))
  have hb6:Below w5.heap.size w5 w6:=hw6▸((J_ _ _).alloc le_ _).alloc (by simp) _
  have hu6:w6.heap[b0]? = some (.cells #[.string a5] 9 (0,0)):=by
    rw [←hw6,←hb0]
    exact (((J_ _ _).alloc le_ _).block w5.heap.size (by simp)).trans (I_ _ _)
  have hk6:w6.heap[b0+1]? = some (.cells #[.int .i64 2,.slice (some ⟨b0,0,none⟩) 1 1,.slice none 0 0] 58 (0,0)):=by
    rw [←hw6]
    have:=I_ (w5.alloc (.cells #[.string a5] 9 (0,0))) (.cells #[.int .i64 2,.slice (some ⟨b0,0,none⟩) 1 1,.slice none 0 0] 58 (0,0))
    simpa [hb0] using this
  rw [hw6]
  have HU6:Hid (Yi l g A c w b0 (b0+1) w6 (some ⟨b0,0,none⟩) 1 [a5] s5):=hid ⟨HN5.out.below hb6,Ej hu6 le_,hk6,hb0▸HN5.out.same.size,by omega,by simp [Value.ownBlock],by rw [←hb0];exact hb6.size⟩
  obtain ⟨K,hK⟩:=nm_ (b0+1)
  rw [hK] at HU6 ⊢
  clear hb6 hu6 hk6 hw6 hb0 hK
  go_loopg [] 10 (fun k wr=>∃n U u us s',Yi l g A c w b0 K wr U u us s'∧n<k∧n+us.length=9∧(s'.bad=0→us.length≤5)∧fD l n us s'=(us6,s6))
  case atStart=>exact ⟨8,_,_,[a5],s5,HU6.out,by omega,rfl,fun _=>by simp,HS.out.2.2.2.2.1⟩
  case round=>
    obtain ⟨n,U,u,us,s',hU,hnk,hnl,h5,hans⟩:=hrel
    obtain ⟨gk,rfl⟩:=pk_ gk 1 (by omega)
    have HW:=hid hU
    have HTA:=hid (eH T hU.nd.rdr ⟨#[44]⟩)
    have hin6:=(bK T.fin ⟨#[44]⟩ (by decide) hU.nd.rdr.inr).1
    have hbad:=nT (l:=l) (x:=⟨#[44]⟩) (s:=s') (by decide)
    have hno:(aF l ⟨#[44]⟩ s').1=false→(aF l ⟨#[44]⟩ s').2=s':=fun h=>by unfold aF at h ⊢;split <;> simp_all
    have hstep:∀j,n=j+1→fD l n us s'=if (aF l ⟨#[44]⟩ s').1=true then fD l j (us++[(bG l us (cS l us.length 5 (aF l ⟨#[44]⟩ s').2)).1]) (bG l us (cS l us.length 5 (aF l ⟨#[44]⟩ s').2)).2 else (us,(aF l ⟨#[44]⟩ s').2):=fun j e=>by subst e;rfl
    obtain ⟨⟨q,s2⟩,hq⟩:∃x,aF l ⟨#[44]⟩ s'=x:=⟨_,rfl⟩
    rw [hq] at HTA hin6 hbad hno hstep
    simp only at hin6 hbad hno hstep
    clear hU hq
    cases q with
    | false=>
      have hfin:(us,s2)=(us6,s6):=by
        rw [←hans]
        cases n with
        | zero=>rw [hno rfl];rfl
        | succ n=>rw [hstep n rfl,K_ (by decide)]
      injection hfin with e1 e2
      subst e1 e2
      have HIN:=hid hin6
      clear hin6 hbad hno hstep hans h5
      go_wp2_with fail
      refine HTA.out.mono ?_
      rintro e w7 ⟨rfl,hr7,hs7⟩
      have HW7:=hid (HW.out.step hs7 hr7 HIN.out)
      clear hr7 hs7
      go_wp2_with fail
      refine (HBL.out w7 HW7.out.nd.rdr).mono ?_
      rintro e w8 ⟨B,b,rfl,hx8,hr8,hs8⟩
      simp only at hx8
      have HW8:=hid (HW7.out.step hs8 hr8 HS.out.2.2.2.2.2)
      have HX8:=hid hx8
      have hK7:=aC HW7.out.box
      obtain ⟨⟨k0,k1,k2⟩,f0,f1,f2⟩:=bH HW8.out.box
      clear hr8 hs8 hx8
      go_wp2_with fail
      go_ret
      have hsK:Same [K] w8 (w8.setCell ⟨K,2,none⟩ (.slice B ks.length b)):=(Same.refl [K] w8).setCell (.inl (by simp)) _
      have hf:=HW8.out.far
      have HN9:=HW8.out.nd.put hsK (by omega)
      have hr:=(HW8.out.rows.keepS hsK (fun k hk e=>by simp at hk;subst hk;exact hf.2.2.1 e)).row (fun _ h=>h)
      have hs7:=HW7.out.nd.same.size
      exact ⟨_,rfl,Av.row (hr.more (fun k hk=>.inl (by omega))) ((HX8.out.keep hsK (fun k hk=>by simp at hk;omega)).more (fun k hk=>.inl (by omega))),HN9.rdr.rd,HN9.same⟩
    | true=>
      have h5':=h5 (hbad rfl)
      obtain ⟨j,rfl⟩:=pk_ n 1 (by omega)
      have h:=hstep j rfl
      rw [M_ rfl,hans] at h
      have hful:us.length=5→(bG l us (cS l us.length 5 s2)).2.bad≠0:=fun h=>qY (by omega)
      obtain ⟨s3,h3⟩:=nm_ (cS l (us.length:Int) 5 s2)
      rw [h3] at h hful
      have hon3:=mT (l:=l) (us.length:Int) 5 hin6
      rw [h3] at hon3
      have hon4:=cT T.fin us hon3.1
      obtain ⟨⟨x4,s4'⟩,h4⟩:∃x,bG l us s3=x:=⟨_,rfl⟩
      rw [h4] at h hful hon4
      simp only at h hful hon4
      have HR:=hid (⟨h3,h4,hin6,hon3.1,hon4.1,h.symm,hful⟩:_∧_∧_∧_∧_∧_∧_)
      clear hin6 hbad hno hstep hans h5 h hful h3 h4 hon3 hon4
      go_wp2_with fail
      refine HTA.out.mono ?_
      rintro e w7 ⟨rfl,hr7,hs7⟩
      have HW7:=hid (HW.out.step hs7 hr7 HR.out.2.2.1)
      obtain ⟨⟨k0,k1,k2⟩,f0,f1,f2⟩:=bH HW7.out.box
      clear hr7 hs7
      go_wp2_with fail
      refine (Dx T HW7.out.nd.rdr (us.length:Int) 5).mono ?_
      rw [HR.out.1]
      rintro e w8 ⟨rfl,hr8,hs8⟩
      have HW8:=hid (HW7.out.step hs8 hr8 HR.out.2.2.2.1)
      have HNM:=hid (fun W (hb:Below w8.heap.size w8 W)=>kU T (HW8.out.nd.rdr.step hb) (cc:=u) (HW8.out.rows.below hb).strs)
      rw [HR.out.2.1] at HNM
      have hlK:=aC HW8.out.box
      clear hr8 hs8 k0 k1 k2 f0 f1 f2
      obtain ⟨⟨k0,k1,k2⟩,f0,f1,f2⟩:=bH HW8.out.box
      have hu5:us.length≤5:=h5'
      go_wp2_with fail
      go_region_law (first
        | (refine zS (by rfl) _ _ _ (by rfl) (.string ⟨#[]⟩) 16 underlying37 gM (by rfl) (by decide) (by rfl) HW9.out.rows x4 #[.string x4] _ (by rfl) (by rfl) (by simp [Value.oneCell']) (Av.str _ _ _) (by unfold maxLen;omega) (by omega) HW9.out.far.2.2.2 ?_;intro g2 cap w10 hG hS hg2;have hbx:=hS.heap (fun hc=>HW9.out.far.2.2.1 (by simpa using hc)) HW9.out.box;obtain ⟨⟨z0,z1,z2⟩,e0,e1,e2⟩:=bH hbx;have hl10:=aC hbx)
        | (go_simp;go_at_call 25;refine (HNM.out _ ?_).mono ?_;(first | exact (J_ _ _) | exact (J_ _ _).drew);rintro r w9 ⟨rfl,hr9,hs9⟩;have HW9:=hid (HW8.out.step (Same.trans (M':=[g]) (by first | exact (Same.refl [g] w8) | exact (Same.refl [g] w8).drew) hs9 (fun _ h=>.inl h)) hr9 HR.out.2.2.2.2.1);obtain ⟨⟨y0,y1,y2⟩,e0,e1,e2⟩:=bH HW9.out.box;have hl9:=aC HW9.out.box;clear hr9 hs9;(try go_wp2_with fail)))
      all_goals
        have HW10:=hid (HW9.out.push hG hS hg2)
        go_wp2_with fail
        go_roundg gk
        case measure=>omega
        case rel=>exact ⟨j,some ⟨g2,0,none⟩,cap,us++[x4],s4',by first | exact HW10.out | exact HW10.out,by omega,by simp;omega,fun hc=>by simp;have h1:us.length≠5:=fun he=>HR.out.2.2.2.2.2.2 he hc;omega,HR.out.2.2.2.2.2.1⟩
end
end Go.Proofs.YtgcfjkfipkfijaaGreatDoor
namespace Go.Proofs.YtgcfjkfipkfijaaGreatDoor
open Go Go.RowKit Go.Lib _root_.Go.Proofs.Tryz
theorem Nt {l g c A m nd} (T:fZ l) (hn:rE l g A c (m+1) nd) (hon:fL l (m+1) nd):rE l g A c m (fun s=>dI l (aL l nd) (eE (aE l s.at_)) s):=by
 intro s w h hb hm
 obtain ⟨y,hy⟩:=nm_ (eE (aE l s.at_))
 simp only [hy]
 unfold dI
 by_cases h1:dK y qS=true
 ·rw [M_ (.inl h1)]
  have e:=bF.1 h1
  subst e
  exact Ei T hn hon h hb hm qS 0 (.inl ⟨rfl,rfl⟩) hy
 ·by_cases h2:dK y qH=true
  ·rw [M_ (.inr h2),M_ h2]
   have e:=bF.1 h2
   subst e
   exact Ei T hn hon h hb hm qH 1 (.inr ⟨rfl,rfl⟩) hy
  ·rw [K_ (fun hc=>hc.elim h1 h2)]
   by_cases h3:dK y jP=true
   ·rw [M_ h3]
    have e:=bF.1 h3
    subst e
    exact Ns T hn hon h hb hm hy
   ·rw [K_ h3]
    by_cases h4:dK y Bp=true
    ·rw [M_ h4]
     have e:=bF.1 h4
     subst e
     exact Wi T hn hon h hb hm hy
    ·rw [K_ h4]
     by_cases h5:dK y fK=true
     ·rw [M_ h5]
      have e:=bF.1 h5
      subst e
      exact Ie T h hb hy
     ·rw [K_ h5]
      exact Nr T h y hy (by simpa using h1) (by simpa using h2) (by simpa using h3) (by simpa using h4) (by simpa using h5)
theorem zT {l g c A} (T:fZ l):∀f:Nat,rE l g A c (25 - f) (gK l f)
 | 0=>fun s w h hb hm=>absurd (h.inr.2.2.2.2 hb) (by omega)
 | f+1=>by
  have h1:=zT (g:=g) (c:=c) (A:=A) T f
  have h2:=lN T.fin T.take f
  have e:25 - ((f+1:Nat):Int)+1=25 - f:=by omega
  rw [←e] at h1 h2
  exact Nt T h1 h2
structure NQ where
 nd:Nd
 kA:Option Addr
 kc:Nat
 uA:Option Addr
 uc:Nat
 gA:Option Addr
 gc:Nat
 eA:Option Addr
 ec:Nat
def NQ.kV (q:NQ):Value:=.slice q.kA q.nd.kids.length q.kc
def NQ.enc (q:NQ):List Value:=[.int .i64 q.nd.kind,q.kV,.slice q.uA q.nd.units.length q.uc,.string q.nd.name,.slice q.gA q.nd.args.length q.gc,.int .i64 q.nd.e.op,.int .i64 q.nd.e.n,.string q.nd.e.name,.slice q.eA q.nd.e.kids.length q.ec]
def bJ (v:Value) (qs:List NQ):List Nat:=v.ownBlock.toList++qs.flatMap (fun q=>q.kV.ownBlock.toList)
structure mX (P:Nat→Prop) (w:World) (q:NQ):Prop where
 us:aO aN.str P w q.uA q.uc q.nd.units
 gs:aO oH P w q.gA q.gc q.nd.args
 ex:cR P w q.nd.e q.eA q.ec
theorem mX.keep {P w w' q M} (h:mX P w q) (hs:Same M w w') (hM:∀k,k∈M→P k):mX P w' q:=⟨h.us.keep hs hM,h.gs.keep hs hM,h.ex.keep hs hM⟩
theorem mX.more {P Q w q} (h:mX P w q) (hq:∀k,Q k→P k∨w.heap.size≤k):mX Q w q:=⟨h.us.more hq,h.gs.more hq,h.ex.more hq⟩
structure dF (b0:Nat) (P:Nat→Prop) (w:World) (B:Option Addr) (n b:Nat) (qs:List NQ):Prop where
 len:qs.length=n
 own:w.ownsRow b0 43 9 (.slice B n b) n (qs.flatMap NQ.enc)
 kid:∀q,q∈qs→w.ownsRow b0 3 1 q.kV q.nd.kids.length (q.nd.kids.map (Value.int .i64 ·))
 dist:(bJ (.slice B n b) qs).Nodup
 rest:∀q,q∈qs→mX (fun k=>P k∨k∈bJ (.slice B n b) qs) w q
theorem eR {v qs k}:k∈bJ v qs↔v.ownBlock=some k∨∃q,q∈qs∧q.kV.ownBlock=some k:=by
 unfold bJ
 rw [List.mem_append,List.mem_flatMap]
 simp
theorem kW {v qs} (h:(bJ v qs).Nodup):∀q,q∈qs→∀k,q.kV.ownBlock=some k→v.ownBlock≠some k:=fun q hq k hk e=>by
 unfold bJ at h
 have:=(List.nodup_append.1 h).2.2 k (by rw [e];simp) k (List.mem_flatMap.2 ⟨q,hq,by rw [hk];simp⟩)
 exact this rfl
namespace dF
variable {b0 : Nat} {P : Nat → Prop} {w w' : World} {B : Option Addr} {n b : Nat} {qs : List NQ}
theorem nil (b0 P w):dF b0 P w none 0 0 []:=⟨rfl,World.ownsRow_nil _ _ _ _,fun q hq=>by simp at hq,by simp [bJ,Value.ownBlock],fun q hq=>by simp at hq⟩
theorem below (h:dF b0 P w B n b qs) (hb:Below w.heap.size w w'):dF b0 P w' B n b qs:=
 ⟨h.len,iW h.own hb,fun q hq=>iW (h.kid q hq) hb,h.dist,fun q hq=>(h.rest q hq).keep (M:=[]) (Same.of_below hb) (fun _ hk=>by simp at hk)⟩
theorem lt (h:dF b0 P w B n b qs) (k) (hk:k∈bJ (.slice B n b) qs):b0≤k∧k<w.heap.size:=by
 rcases eR.1 hk with h1 | ⟨q,hq,h1⟩
 ·exact aS h.own k h1
 ·exact aS (h.kid q hq) k h1
theorem push {w6 g cap ob q0} (h:dF b0 P w B n b qs) (h0:q0.nd.kids=[]) (hk0:q0.kV=.slice none 0 0) (hr:mX (fun k=>P k∨k∈bJ (.slice B n b) qs) w q0) (hg:(w.alloc ob).grownBy w6 (Value.slice B n b).ownBlock) (hown:w6.ownsRow b0 43 9 (.slice (some ⟨g,0,none⟩) (n+1) cap) (n+1) (qs.flatMap NQ.enc++q0.enc)) (hat:(Value.slice B n b).ownBlock=some g∨g=w.heap.size+1) :
  dF b0 P w6 (some ⟨g,0,none⟩) (n+1) cap (qs++[q0])∧Same (Value.slice B n b).ownBlock.toList w w6∧∀k,k∈bJ (.slice (some ⟨g,0,none⟩) (n+1) cap) (qs++[q0])→k∈bJ (.slice B n b) qs∨w.heap.size≤k:=by
 have hS:Same (Value.slice B n b).ownBlock.toList w w6:=((Same.refl _ w).alloc _).grown hg (fun k hk=>.inl (by rw [hk];simp))
 have hmem:∀k,k∈bJ (.slice (some ⟨g,0,none⟩) (n+1) cap) (qs++[q0])→k∈bJ (.slice B n b) qs∨w.heap.size≤k:=fun k hk=>by
  rcases eR.1 hk with h1 | ⟨q,hq,h1⟩
  ·have e:some g=some k:=h1
   obtain rfl:=e_ e
   rcases hat with h2 | h2
   ·exact .inl (eR.2 (.inl h2))
   ·exact .inr (by omega)
  ·rcases G_ hq with hq | hq
   ·exact .inl (eR.2 (.inr ⟨q,hq,h1⟩))
   ·simp at hq;subst hq;rw [hk0] at h1;simp [Value.ownBlock] at h1
 refine ⟨⟨by rw [O_,h.len];rfl,by rw [q_];simpa using hown,fun q hq=>?_,?_,fun q hq=>?_⟩,hS,hmem⟩
 ·rcases G_ hq with hq | hq
  ·exact dQ (h.kid q hq) hS (fun k hk e=>kW h.dist q hq k e (by simpa using hk))
  ·simp at hq;subst hq;rw [hk0,h0];exact World.ownsRow_nil _ _ _ _
 ·have hd:=h.dist
  unfold bJ at hd ⊢
  have e:(qs++[q0]).flatMap (fun q=>q.kV.ownBlock.toList)=qs.flatMap (fun q=>q.kV.ownBlock.toList):=by
   rw [q_];simp [hk0,Value.ownBlock]
  rw [e]
  refine List.nodup_append.2 ⟨by simp [Value.ownBlock],(List.nodup_append.1 hd).2.1,fun a ha b' hb'=>?_⟩
  have ea:a=g:=by simpa [Value.ownBlock] using ha
  subst ea
  rintro rfl
  rcases hat with h2 | h2
  ·exact (List.nodup_append.1 hd).2.2 a (by rw [h2];simp) a hb' rfl
  ·obtain ⟨q,hq,h3⟩:=List.mem_flatMap.1 hb'
   have:=(aS (h.kid q hq) a (by simpa using h3)).2
   omega
 ·have hA:mX (fun k=>P k∨k∈bJ (.slice B n b) qs) w q:=by
   rcases G_ hq with hq | hq
   ·exact h.rest q hq
   ·simp at hq;subst hq;exact hr
  have h1:mX (fun k=>(P k∨k∈bJ (.slice B n b) qs)∨k∈bJ (.slice (some ⟨g,0,none⟩) (n+1) cap) (qs++[q0])) w q:=hA.more (fun k hk=>hk.elim .inl (fun hk=>(hmem k hk).elim (fun h=>.inl (.inr h)) .inr))
  exact (h1.keep hS (fun k hk=>.inl (.inr (eR.2 (.inl (by simpa using hk)))))).more (fun k hk=>.inl (hk.elim (fun h=>.inl (.inl h)) .inr))
def _root_.Go.Proofs.YtgcfjkfipkfijaaGreatDoor.NQ.one (q:NQ) (num:Int) (g cap:Nat):NQ:={ q with nd:={ q.nd with kids:=q.nd.kids++[num] },kA:=some ⟨g,0,none⟩,kc:=cap }
theorem Ek:∀(qs:List NQ) (j:Nat) (h:j<qs.length) (num:Int) (g cap:Nat),(qs.set j (qs[j].one num g cap)).flatMap NQ.enc=(qs.flatMap NQ.enc).set (j*9+1) (.slice (some ⟨g,0,none⟩) (qs[j].nd.kids.length+1) cap)
 | q::qs,0,_,num,g,cap=>by
  have hl:(q.one num g cap).kV=.slice (some ⟨g,0,none⟩) (q.nd.kids.length+1) cap:=by unfold NQ.kV NQ.one;simp
  rw [List.getElem_cons_zero,List.set_cons_zero,i_,i_,List.set_append_left _ _ (by simp [NQ.enc])]
  unfold NQ.enc
  rw [hl]
  rfl
 | q::qs,j+1,h,num,g,cap=>by
  rw [List.getElem_cons_succ,List.set_cons_succ,i_,i_,List.set_append_right _ _ (by simp [NQ.enc];omega),Ek qs j (by simpa using h)]
  have e:(j+1)*9+1 - q.enc.length=j*9+1:=by simp [NQ.enc];omega
  rw [e]
theorem Cf (q:NQ) (num:Int) (g cap:Nat):(q.one num g cap).kV=.slice (some ⟨g,0,none⟩) (q.nd.kids.length+1) cap:=by unfold NQ.kV NQ.one;simp
theorem vI {qs:List NQ} {j:Nat} {q' q:NQ} (h:q∈qs.set j q'):q=q'∨q∈qs:=(List.mem_or_eq_of_mem_set h).symm
theorem El:∀(qs:List NQ) (j:Nat) (h:j<qs.length) (q':NQ) (k:Nat),q'.kV.ownBlock=some k→(qs[j].kV.ownBlock=some k∨∀q,q∈qs→q.kV.ownBlock≠some k)→(qs.flatMap (fun q=>q.kV.ownBlock.toList)).Nodup→((qs.set j q').flatMap (fun q=>q.kV.ownBlock.toList)).Nodup
 | q::qs,0,_,q',k,hk,ho,hd=>by
  rw [List.set_cons_zero,i_]
  rw [i_] at hd
  refine List.nodup_append.2 ⟨by rw [hk];simp,(List.nodup_append.1 hd).2.1,fun a ha b' hb'=>?_⟩
  have ea:a=k:=by rw [hk] at ha;simpa using ha
  subst ea
  rintro rfl
  rcases ho with ho | ho
  ·rw [List.getElem_cons_zero] at ho
   exact (List.nodup_append.1 hd).2.2 a (by rw [ho];simp) a hb' rfl
  ·obtain ⟨x,hx,h3⟩:=List.mem_flatMap.1 hb'
   exact ho x (by simp [hx]) (by simpa using h3)
 | q::qs,j+1,h,q',k,hk,ho,hd=>by
  rw [List.set_cons_succ,i_]
  rw [i_] at hd
  have hj:j<qs.length:=by simpa using h
  rw [List.getElem_cons_succ] at ho
  refine List.nodup_append.2 ⟨(List.nodup_append.1 hd).1,El qs j hj q' k hk (ho.imp id (fun h x hx=>h x (by simp [hx]))) (List.nodup_append.1 hd).2.1,fun a ha b' hb'=>?_⟩
  rintro rfl
  obtain ⟨x,hx,h3⟩:=List.mem_flatMap.1 hb'
  rcases vI hx with rfl | hx
  ·have ea:k=a:=by
    have h3:a∈(x.kV).ownBlock.toList:=h3
    rw [hk] at h3
    have:a=k:=by simpa using h3
    exact this.symm
   subst ea
   rcases ho with ho | ho
   ·exact (List.nodup_append.1 hd).2.2 k ha k (List.mem_flatMap.2 ⟨qs[j],g_ hj,by rw [ho];simp⟩) rfl
   ·exact ho q (by simp) (by simpa using ha)
  ·exact (List.nodup_append.1 hd).2.2 a ha a (List.mem_flatMap.2 ⟨x,hx,h3⟩) rfl
theorem zU:∀(qs:List NQ) (_:(qs.flatMap (fun q=>q.kV.ownBlock.toList)).Nodup) (i j:Nat) (hi:i<qs.length) (hj:j<qs.length) (k:Nat),(qs[i].kV).ownBlock=some k→(qs[j].kV).ownBlock=some k→i=j
 | _::_,_,0,0,_,_,_,_,_=>rfl
 | q::qs,hd,0,j+1,_,hj,k,h1,h2=>by
  rw [i_] at hd
  exact absurd rfl ((List.nodup_append.1 hd).2.2 k (by simp at h1;rw [h1];simp) k (List.mem_flatMap.2 ⟨qs[j]'(by simpa using hj),g_ _,by simp at h2;rw [h2];simp⟩))
 | q::qs,hd,i+1,0,hi,_,k,h1,h2=>by
  rw [i_] at hd
  exact absurd rfl ((List.nodup_append.1 hd).2.2 k (by simp at h2;rw [h2];simp) k (List.mem_flatMap.2 ⟨qs[i]'(by simpa using hi),g_ _,by simp at h1;rw [h1];simp⟩))
 | q::qs,hd,i+1,j+1,hi,hj,k,h1,h2=>by
  rw [i_] at hd
  exact c_ (· + 1) (zU qs (List.nodup_append.1 hd).2.1 i j (by simpa using hi) (by simpa using hj) k (by simpa using h1) (by simpa using h2))
theorem kidPush {w6 gB g cap j ob num} (h:dF b0 P w (some ⟨gB,0,none⟩) n b qs) (hj:j<qs.length) (hg:(w.alloc ob).grownBy w6 (qs[j].kV).ownBlock) (hown:w6.ownsRow b0 3 1 (.slice (some ⟨g,0,none⟩) (qs[j].nd.kids.length+1) cap) (qs[j].nd.kids.length+1) (qs[j].nd.kids.map (Value.int .i64 ·)++[.int .i64 num])) (hat:(qs[j].kV).ownBlock=some g∨g=w.heap.size+1) :
  dF b0 P (w6.setCell ⟨gB,j*9+1,none⟩ (.slice (some ⟨g,0,none⟩) (qs[j].nd.kids.length+1) cap)) (some ⟨gB,0,none⟩) n b (qs.set j (qs[j].one num g cap)) ∧
   Same (bJ (.slice (some ⟨gB,0,none⟩) n b) qs) w (w6.setCell ⟨gB,j*9+1,none⟩ (.slice (some ⟨g,0,none⟩) (qs[j].nd.kids.length+1) cap)) ∧
   ∀k,k∈bJ (.slice (some ⟨gB,0,none⟩) n b) (qs.set j (qs[j].one num g cap))→k∈bJ (.slice (some ⟨gB,0,none⟩) n b) qs∨w.heap.size≤k:=by
 have hqj:=g_ hj
 have hB:(Value.slice (some ⟨gB,0,none⟩) n b).ownBlock=some gB:=rfl
 have hS:Same (qs[j].kV).ownBlock.toList w w6:=((Same.refl _ w).alloc _).grown hg (fun k hk=>.inl (by rw [hk];simp))
 have hin:∀k,k∈(qs[j].kV).ownBlock.toList→k∈bJ (.slice (some ⟨gB,0,none⟩) n b) qs:=fun k hk=>eR.2 (.inr ⟨qs[j],hqj,by simpa using hk⟩)
 have hgB:g≠gB:=by
  rcases hat with h2 | h2
  ·intro e;subst e;exact kW h.dist qs[j] hqj g h2 rfl
  ·have:=(aS h.own gB rfl).2;omega
 have hS6:Same (bJ (.slice (some ⟨gB,0,none⟩) n b) qs) w (w6.setCell ⟨gB,j*9+1,none⟩ (.slice (some ⟨g,0,none⟩) (qs[j].nd.kids.length+1) cap)):=(hS.mono hin).setCell (p:=⟨gB,j*9+1,none⟩) (.inl (eR.2 (.inl rfl))) _
 have hSB:Same [gB] w6 (w6.setCell ⟨gB,j*9+1,none⟩ (.slice (some ⟨g,0,none⟩) (qs[j].nd.kids.length+1) cap)):=(Same.refl [gB] w6).setCell (.inl (by simp)) _
 have hmem:∀k,k∈bJ (.slice (some ⟨gB,0,none⟩) n b) (qs.set j (qs[j].one num g cap))→k∈bJ (.slice (some ⟨gB,0,none⟩) n b) qs∨w.heap.size≤k:=fun k hk=>by
  rcases eR.1 hk with h1 | ⟨q,hq,h1⟩
  ·exact .inl (eR.2 (.inl h1))
  ·rcases vI hq with rfl | hq
   ·rw [Cf] at h1
    have e:some g=some k:=h1
    obtain rfl:=e_ e
    rcases hat with h2 | h2
    ·exact .inl (eR.2 (.inr ⟨_,hqj,h2⟩))
    ·exact .inr (by omega)
   ·exact .inl (eR.2 (.inr ⟨q,hq,h1⟩))
 have hown6:w6.ownsRow b0 43 9 (.slice (some ⟨gB,0,none⟩) n b) n (qs.flatMap NQ.enc):=dQ h.own hS (fun k hk e=>kW h.dist qs[j] hqj k (by simpa using hk) e)
 refine ⟨⟨by rw [List.length_set];exact h.len,by rw [Ek];exact (hown6.stored (j*9+1) _).1,fun q hq=>?_,?_,fun q hq=>?_⟩,hS6,hmem⟩
 ·obtain ⟨i,hi,rfl⟩:=List.getElem_of_mem hq
  rw [List.length_set] at hi
  rw [List.getElem_set]
  split
  ·rename_i e
   rw [Cf]
   have:=dQ hown hSB (fun k hk e=>by simp at hk;subst hk;have e:some g=some k:=e;exact hgB (e_ e))
   simpa [NQ.one] using this
  ·rename_i e
   have hqi:=g_ hi
   refine dQ (dQ (h.kid _ hqi) hS (fun k hk e2=>?_)) hSB (fun k hk e2=>by simp at hk;subst hk;exact kW h.dist _ hqi k e2 rfl)
   have hk:(qs[j].kV).ownBlock=some k:=by simpa using hk
   have hd:=h.dist
   unfold bJ at hd
   exact absurd (zU qs (List.nodup_append.1 hd).2.1 i j hi hj k e2 hk) (fun h=>e h.symm)
 ·have hd:=h.dist
  unfold bJ at hd ⊢
  refine List.nodup_append.2 ⟨(List.nodup_append.1 hd).1,El qs j hj _ g (by rw [Cf];rfl) ?_ (List.nodup_append.1 hd).2.1,fun a ha b' hb'=>?_⟩
  ·rcases hat with h2 | h2
   ·exact .inl h2
   ·exact .inr (fun q hq e=>by have:=(aS (h.kid q hq) g e).2;omega)
  ·have ea:a=gB:=by simpa [Value.ownBlock] using ha
   subst ea
   rintro rfl
   obtain ⟨x,hx,h3⟩:=List.mem_flatMap.1 hb'
   rcases vI hx with rfl | hx
   ·rw [Cf] at h3
    have:a=g:=by simpa [Value.ownBlock] using h3
    exact hgB this.symm
   ·exact (List.nodup_append.1 hd).2.2 a ha a (List.mem_flatMap.2 ⟨x,hx,h3⟩) rfl
 ·have hA:∃q1,q1∈qs∧q.nd.units=q1.nd.units∧q.nd.args=q1.nd.args∧q.nd.e=q1.nd.e∧q.uA=q1.uA∧q.uc=q1.uc∧q.gA=q1.gA∧q.gc=q1.gc∧q.eA=q1.eA∧q.ec=q1.ec:=by
   rcases vI hq with rfl | hq
   ·exact ⟨qs[j],hqj,rfl,rfl,rfl,rfl,rfl,rfl,rfl,rfl,rfl⟩
   ·exact ⟨q,hq,rfl,rfl,rfl,rfl,rfl,rfl,rfl,rfl,rfl⟩
  obtain ⟨q1,hq1,e1,e2,e3,e4,e5,e6,e7,e8,e9⟩:=hA
  have hr:mX (fun k=>P k∨k∈bJ (.slice (some ⟨gB,0,none⟩) n b) qs) w q:=by
   have:=h.rest q1 hq1
   exact ⟨by rw [e1,e4,e5];exact this.us,by rw [e2,e6,e7];exact this.gs,by rw [e3,e8,e9];exact this.ex⟩
  have h1:mX (fun k=>(P k∨k∈bJ (.slice (some ⟨gB,0,none⟩) n b) qs)∨k∈bJ (.slice (some ⟨gB,0,none⟩) n b) (qs.set j (qs[j].one num g cap))) w q:=hr.more (fun k hk=>hk.elim .inl (fun hk=>(hmem k hk).elim (fun h=>.inl (.inr h)) .inr))
  exact (h1.keep hS6 (fun k hk=>.inl (.inr hk))).more (fun k hk=>.inl (hk.elim (fun h=>.inl (.inl h)) .inr))
end dF
end Go.Proofs.YtgcfjkfipkfijaaGreatDoor
