/- Part 42 of the proof of rtrees_card; no conditions. -/
import Derived.Test.YtgcfjkfipkfijaaGreatDoorTr01
import Derived.Test.YtgcfjkfipkfijaaGreatDoorTr40
import Derived.Test.YtgcfjkfipkfijaaGreatDoorTr41
import Derived.Test.YtgcfjkfipkfijaaGreatDoorTr35
set_option maxRecDepth 100000
set_option maxHeartbeats 8000000
namespace Go.Proofs.YtgcfjkfipkfijaaGreatDoor
open Go Go.RowKit Go.Lib _root_.Go.Proofs.Tryz
section
variable {l : List bQ} {g c : Nat} {A : Option Addr} {s s' : RS} {w w' : World} {t t' : RT}
def AQ (g:Nat) (A:Option Addr) (n c:Nat) (p:Ex × RS) (t:RT) (w:World) (r:Ending) (w':World):Prop:=
 ∃B d,r=.returned (eJ p.1 B d)∧cR (fun k=>k<w.heap.size) w' p.1 B d∧Cv w' g A n c p.2 t∧Same [g] w w'
def Zk (w1:World) (e:Ex) (E3:Nat) (wx:World):Prop:=∃B d,w1.heap.size≤E3∧wx.heap[E3]? = some (.cells #[.int .i64 e.op,.int .i64 e.n,.string e.name,.slice B e.kids.length d] 41 (0,0))∧cR (fun k=>k<w1.heap.size) wx e B d∧Below w1.heap.size w1 wx
theorem Zl {w1 w5 e B d} (hx:cR (fun k=>k<w1.heap.size) w5 e B d) (hb:Below w1.heap.size w1 w5):Zk w1 e w5.heap.size (w5.alloc (.cells #[.int .i64 e.op,.int .i64 e.n,.string e.name,.slice B e.kids.length d] 41)):=
 ⟨B,d,hb.size,I_ _ _,hx.below ((J_ _ _).alloc le_ _),hb.alloc hb.size _⟩
theorem Zm {w1 w5 e B d K} (hK:w1.heap.size=K) (hx:cR (fun k=>k<w1.heap.size+1) w5 e B d) (hb:Below w1.heap.size w1 w5) (h:w5.heap[K]? = some (.cells #[.int .i64 0,.int .i64 0,.string ⟨#[]⟩,.slice none 0 0] 41 (0,0))) :
  Zk w1 e K ((((w5.setCell ⟨K,0,none⟩ (.int .i64 e.op)).setCell ⟨K,1,none⟩ (.int .i64 e.n)).setCell ⟨K,2,none⟩ (.string e.name)).setCell ⟨K,3,none⟩ (.slice B e.kids.length d)):=by
 have hs:Same [K] w5 ((((w5.setCell ⟨K,0,none⟩ (.int .i64 e.op)).setCell ⟨K,1,none⟩ (.int .i64 e.n)).setCell ⟨K,2,none⟩ (.string e.name)).setCell ⟨K,3,none⟩ (.slice B e.kids.length d)):=
  ((((Same.refl [K] w5).setCell (.inl (by simp)) _).setCell (.inl (by simp)) _).setCell (.inl (by simp)) _).setCell (.inl (by simp)) _
 refine ⟨B,d,by omega,?_,(hx.keep hs (fun k hk=>by simp at hk;omega)).more (fun k hk=>.inl (by omega)),((Same.of_below (M:=[K]) hb).trans hs (fun x hx=>.inl hx)).below_of (fun k hk=>by simp at hk;omega)⟩
 have h1:=aZ (aZ (aZ (aZ h 0 (.int .i64 e.op)) 1 (.int .i64 e.n)) 2 (.string e.name)) 3 (.slice B e.kids.length d)
 exact h1
theorem Xt {w1 wx:World} {e:Ex} {B:Option Addr} {d E:Nat} {k f:Int} {n:Nat} (hE:w.heap.size=E) (hgE:g<E) (hb:Below w.heap.size w wx) (hr:Cv wx g A n c s t) (hx:cR (fun k=>k<w1.heap.size) wx e B d) (hw:E<w1.heap.size) :
  AQ g A n c (e,⟨k,f,s.nodes⟩) t w (.returned (eJ e B d)) ((((((wx.setCell ⟨g,1,none⟩ (.int .i64 k)).setCell ⟨g,2,none⟩ (.int .i64 f)).setCell ⟨E,0,none⟩ (.int .i64 e.op)).setCell ⟨E,1,none⟩ (.int .i64 e.n)).setCell ⟨E,2,none⟩ (.string e.name)).setCell ⟨E,3,none⟩ (.slice B e.kids.length d)):=by
 have h1:Same [g] wx ((wx.setCell ⟨g,1,none⟩ (.int .i64 k)).setCell ⟨g,2,none⟩ (.int .i64 f)):=((Same.refl [g] wx).setCell (.inl (by simp)) _).setCell (.inl (by simp)) _
 have h2:=bS ((wx.setCell ⟨g,1,none⟩ (.int .i64 k)).setCell ⟨g,2,none⟩ (.int .i64 f)) E (.int .i64 e.op) (.int .i64 e.n) (.string e.name) (.slice B e.kids.length d)
 have h3:=aZ (aZ hr 1 (.int .i64 k)) 2 (.int .i64 f)
 refine ⟨B,d,rfl,((hx.keep h1 (fun x hx=>by simp at hx;omega)).keep h2 (fun x hx=>by simp at hx;omega)).more (fun x hx=>.inl (by omega)),h2.heap (k:=g) (by simp;omega) h3,?_⟩
 exact ((Same.of_below (M:=[g]) hb).then_ h1).trans h2 (fun x hx=>.inr (by simp at hx;omega))
theorem Bb (hl:l.length≤2001) (h:vO l g A c w s t):Calls prog 94 #[.pointer (some ⟨g,0,none⟩)] w (AQ g A l.length c (dZ l s) t w):=by
  have hg:=h.lt
  obtain ⟨E,hE⟩:=nm_ w.heap.size
  obtain ⟨w1,hw1⟩:=nm_ (w.alloc (.cells #[.int .i64 0,.int .i64 0,.string ⟨#[]⟩,.slice none 0 0] 41 (0,0)))
  have hb1:Below w.heap.size w w1:=hw1▸(J_ _ _).alloc le_ _
  have hbb:w1.heap[E]? = some (.cells #[.int .i64 0,.int .i64 0,.string ⟨#[]⟩,.slice none 0 0] 41 (0,0)):=by rw [←hE,←hw1];exact I_ _ _
  have h1:=h.step hb1
  obtain ⟨⟨q0,q1,q2,q3,q4,q5⟩,g1,g2,_⟩:=iQ h1.rd
  have HB:=hk_ hb1 h1 hbb
  have HW1:=hid hw1
  have HE:=hid hE
  have hg1:=h1.lt
  obtain ⟨⟨z0,z1,z2,z3⟩,f0,f1,f2,f3⟩:=aK hbb
  have hlz:=aC hbb
  have hgE:g<E:=by omega
  by_cases hb:s.bad=0
  · have hb0:(s.bad == 0)=true:=D_ hb
    have hbn:(s.bad != 0)=false:=by rw [hb];rfl
    obtain ⟨⟨e,f,k⟩,hp⟩:∃p,gZ l s.at_=p:=⟨_,rfl⟩
    have HR:Hid (dZ l s=(e,⟨k,f,s.nodes⟩)):=hid (by unfold dZ;rw [K_ (by simpa using hb),hp])
    have HT:Hid (∀W,Below w1.heap.size w1 W→Calls prog 110 #[.slice A l.length c,.int .i64 s.at_] W (bR W.heap.size (e,f,k) W)):=hid (fun W hW=>by
      have:=Py l A c s.at_ W ((h1.step hW).row.2 [] (by simp)) h.row.1 (by omega)
      rwa [hp] at this)
    clear h h1 hb1 hbb hw1 hb hp hE
    go_enter func94,ntmps94
    go_upto_region 1 with fail
    rw [HW1.out,HE.out]
    go_upto_region 3 with fail
    go_cut [3,4,5] (fun s3 s4 s5 wx=>∃E3:Nat,s3=.pointer (some ⟨E3,0,none⟩)∧s4=.int .i64 f∧s5=.int .i64 k∧Zk w1 e E3 wx)
    case first=>
      go_region_with (go_at_call 110;refine (HT.out _ ?_).mono ?_;(first | exact J_ _ _ | exact (J_ _ _).drew | exact ((J_ _ _).alloc le_ _).drew | exact (J_ _ _).drew.alloc (by simp) _);rintro r w5 ⟨B,d,rfl,hx5,hb5⟩;(try (have zz:=(hb5.block w1.heap.size (by simp)).trans (I_ w1 _);obtain ⟨⟨y0,y1,y2,y3⟩,fy0,fy1,fy2,fy3⟩:=aK zz;have hly:=aC zz));have H5:=hid (⟨hx5,hb5⟩:_∧_);clear hx5 hb5;(try go_wp2_with fail))
      all_goals
        go_wp2_with fail
        go_meet
        refine ⟨_,rfl,rfl,rfl,?_⟩
        first
          | (with_reducible refine Zl ?_ ?_
             · exact H5.out.1
             · exact (J_ _ _).drew.trans H5.out.2)
          | (with_reducible refine Zm (by rfl) ?_ ?_ ?_
             · exact H5.out.1.more (fun k hk=>.inl (by simpa using hk))
             · exact (((J_ w1.heap.size w1).alloc le_ _).drew).trans (H5.out.2.mono (by simp))
             · exact (H5.out.2.block w1.heap.size (by simp)).trans (I_ w1 _))
    case rest=>
      obtain ⟨E3,rfl,rfl,rfl,B,d,hE3,hk3,hx3,hb3⟩:=hcut
      have hX:=HB.out.2.1.step hb3
      have hz:=(hb3.block E hlz).trans HB.out.2.2
      clear q0 q1 q2 q3 q4 q5 g1 g2 z0 z1 z2 z3 f0 f1 f2 f3
      have hgs:g≠E3:=by omega
      have hEs:E≠E3:=by omega
      have hgE':g≠E:=by omega
      have H3:=hk_ hX.rd hx3 (HB.out.1.trans (hb3.mono HB.out.1.size))
      obtain ⟨⟨q0,q1,q2,q3,q4,q5⟩,g1,g2,_⟩:=iQ hX.rd
      obtain ⟨y0,y1,y2,y3⟩:=lQ hk3
      obtain ⟨⟨z0,z1,z2,z3⟩,f0,f1,f2,f3⟩:=aK hz
      have hgl:=hX.lt
      have hly:=aC hk3
      have hlz':=aC hz
      clear hX hz hk3 hx3 hb3
      go_wp2_with fail
      refine L_ (v:=eJ e B d) (by simp [results,results94,go_sem, *]) rfl ?_
      rw [HR.out]
      exact Xt (w1:=w1) HE.out hgE H3.out.2.2 H3.out.1 H3.out.2.1 hlz
  · have hb0:(s.bad == 0)=false:=aW hb
    have hbn:(s.bad != 0)=true:=kH hb0
    have HR:Hid (dZ l s=(eD,s)):=hid (by unfold dZ;rw [M_ hb])
    clear h h1 hb1 hbb hw1 hb hE
    go_enter func94,ntmps94
    go_upto_region 1 with fail
    rw [HW1.out,HE.out]
    go_wp2_with fail
    refine L_ (v:=eJ eD none 0) (by simp [results,results94,go_sem,eD,Ex.op,Ex.n,Ex.name,Ex.kids, *]) rfl ?_
    rw [HR.out]
    have h2:=bS w1 E (.int .i64 0) (.int .i64 0) (.string ⟨#[]⟩) (.slice none 0 0)
    refine ⟨none,0,rfl,cR.leaf rfl,h2.heap (k:=g) (by simp;omega) HB.out.2.1.rd,?_⟩
    exact (Same.of_below (M:=[g]) HB.out.1).trans h2 (fun x hx=>.inr (by have:=HE.out;simp at hx;omega))
end
structure Cw (l:List bQ) (g:Nat) (A:Option Addr) (c:Nat) (w0 wr:World) (B:Option Addr) (b:Nat) (V:Option Addr) (v:Nat) (al:List Ar) (xs:List (Ar × List Value)) (s:RS) (t:RT):Prop where
 rows:aR oH 75 w0.heap.size (fun k=>k<w0.heap.size∨(Value.slice V al.length v).ownBlock=some k) wr B al.length b xs
 fst:xs.map (·.1)=al
 lens:∀q,q∈xs→q.2.length=5
 names:aR aN.str 9 w0.heap.size (fun k=>k<w0.heap.size) wr V al.length v ((al.map (·.name)).map sE)
 apart:∀k,(Value.slice B al.length b).ownBlock=some k→(Value.slice V al.length v).ownBlock≠some k
 rdr:vO l g A c wr s t
 same:Same [g] w0 wr
 lt:g<w0.heap.size
section
variable {l : List bQ} {g c b v : Nat} {A B V : Option Addr} {w0 wr w' : World} {al : List Ar} {xs : List (Ar × List Value)} {s s' : RS} {t : RT}
theorem Cw.step (h:Cw l g A c w0 wr B b V v al xs s t) (hs:Same [g] wr w') (hr:Cv w' g A l.length c s' t) (hi:iY l s'):Cw l g A c w0 w' B b V v al xs s' t:=
 have hl:=h.lt
 ⟨h.rows.keep hs (fun k hk=>by simp at hk;exact .inl (by omega)) (fun k hk e=>by simp at hk;have:=(h.rows.blk k e).1;omega),h.fst,h.lens,h.names.keepS hs (fun k hk e=>by simp at hk;have:=(h.names.blk k e).1;omega),h.apart,h.rdr.next hr hs (fun k hk=>by simp at hk;omega) hi,h.same.then_ hs,hl⟩
theorem Cw.push {w2 w3 g2 b2 g3 v3 a cs} (h:Cw l g A c w0 wr B b V v al xs s t) (hcs:cs.length=5) (h2:aR oH 75 w0.heap.size (fun k=>k<w0.heap.size∨(Value.slice V al.length v).ownBlock=some k) w2 (some ⟨g2,0,none⟩) (al.length+1) b2 (xs++[(a,cs)])) (hs2:Same (Value.slice B al.length b).ownBlock.toList wr w2) (hg2:(Value.slice B al.length b).ownBlock=some g2∨wr.heap.size<g2) (h3:aR aN.str 9 w0.heap.size (fun k=>k<w0.heap.size) w3 (some ⟨g3,0,none⟩) (al.length+1) v3 ((al.map (·.name)).map sE++[(a.name,[.string a.name])])) (hs3:Same (Value.slice V al.length v).ownBlock.toList w2 w3) (hg3:(Value.slice V al.length v).ownBlock=some g3∨w2.heap.size<g3):Cw l g A c w0 w3 (some ⟨g2,0,none⟩) b2 (some ⟨g3,0,none⟩) v3 (al++[a]) (xs++[(a,cs)]) s t:=by
 have hl:=h.lt
 have hlen:(al++[a]).length=al.length+1:=by simp
 have hb2:=(h2.blk g2 rfl)
 have hap:∀k,k∈(Value.slice V al.length v).ownBlock.toList→(Value.slice (some ⟨g2,0,none⟩) (al.length+1) b2).ownBlock≠some k:=fun k hk e=>by
  obtain rfl:g2=k:=by have:some g2=some k:=e;exact e_ this
  rcases hg2 with h1 | h1
  ·exact h.apart g2 h1 (by simpa using hk)
  ·have:=(h.names.blk g2 (by simpa using hk)).2;omega
 have hS:Same [g] w0 w3:=(h.same.trans hs2 (fun x hx=>.inr (h.rows.blk x (by simpa using hx)).1)).trans hs3 (fun x hx=>.inr (h.names.blk x (by simpa using hx)).1)
 refine ⟨?_,by rw [f_,h.fst];rfl,fun q hq=>?_,?_,fun k hk e=>?_,?_,hS,hl⟩
 ·rw [hlen]
  refine ((h2.more (Q:=fun k=>(k<w0.heap.size∨(Value.slice V al.length v).ownBlock=some k)∨k=g3) (fun k hk=>?_)).keep hs3 (fun k hk=>.inl (.inr (by simpa using hk))) hap).more (fun k hk=>?_)
  ·rcases hk with hk | rfl
   ·exact .inl hk
   ·rcases hg3 with h1 | h1
    ·exact .inl (.inr h1)
    ·exact .inr (by omega)
  ·rcases hk with hk | hk
   ·exact .inl (.inl (.inl hk))
   ·exact .inl (.inr (by have:some g3=some k:=hk;exact (e_ this).symm))
 ·rcases G_ hq with hq | hq
  ·exact h.lens q hq
  ·simp at hq;subst hq;exact hcs
 ·rw [hlen,f_,f_]
  exact h3
 ·rw [hlen] at hk e
  obtain rfl:g2=k:=by have:some g2=some k:=hk;exact e_ this
  obtain rfl:g3=g2:=by have:some g3=some g2:=e;exact e_ this
  rcases hg3 with h1 | h1
  ·exact hap g3 (by simpa using h1) rfl
  ·omega
 ·have hno:∀M:List Nat,(∀k,k∈M→w0.heap.size≤k)→g∉M:=fun M hM hc=>by have:=hM g hc;omega
  have hgk:∀k,k∈(Value.slice B al.length b).ownBlock.toList→g≤k:=fun k hk=>by have:=(h.rows.blk k (by simpa using hk)).1;omega
  have hgk2:∀k,k∈(Value.slice V al.length v).ownBlock.toList→g≤k:=fun k hk=>by have:=(h.names.blk k (by simpa using hk)).1;omega
  refine (h.rdr.next (hs2.heap (hno _ (fun k hk=>(h.rows.blk k (by simpa using hk)).1)) h.rdr.rd) hs2 hgk h.rdr.inr).next ?_ hs3 hgk2 h.rdr.inr
  exact hs3.heap (hno _ (fun k hk=>(h.names.blk k (by simpa using hk)).1)) (hs2.heap (hno _ (fun k hk=>(h.rows.blk k (by simpa using hk)).1)) h.rdr.rd)
end
def Ym (g:Nat) (A:Option Addr) (n c:Nat) (p:List Ar × RS) (t:RT) (w:World) (r:Ending) (w':World):Prop:=
 ∃B b,r=.returned (.slice B p.1.length b)∧aO oH (fun k=>k<w.heap.size) w' B b p.1∧Cv w' g A n c p.2 t∧Same [g] w w'
theorem Cw.post {l g c b v A B V w0 wr al xs s} {t:RT} (h:Cw l g A c w0 wr B b V v al xs s t):Ym g A l.length c (al,s) t w0 (.returned (.slice B al.length b)) wr:=by
 have h1:=(h.rows.more (Q:=fun k=>k<w0.heap.size) (fun k hk=>.inl (.inl hk))).out (fun k hk=>hk) h.lens
 rw [h.fst] at h1
 exact ⟨B,b,rfl,h1,h.rdr.rd,h.same⟩
theorem Pz {l g c A s w} {t:RT} (T:fZ l) (hl:l.length≤2001) (h:vO l g A c w s t):Calls prog 95 #[.pointer (some ⟨g,0,none⟩)] w (Ym g A l.length c (uR l s) t w):=by
 obtain ⟨s1,h1⟩:=nm_ (bC l ⟨#[40]⟩ s)
 obtain ⟨e0,he⟩:=nm_ ((aF l ⟨#[41]⟩ s1).1)
 obtain ⟨c5,h5⟩:=nm_ (mH l 8 (s1.bad == 0 && !bZ l ⟨#[41]⟩ s1) [] s1)
 have hX:uR l s=(c5.1,bC l ⟨#[59]⟩ (bC l ⟨#[41]⟩ c5.2)):=by
  unfold uR
  simp only [h1,h5]
 rw [hX]
 have hi1:=(aQ T.fin ⟨#[40]⟩ (by decide) h.inr).1
 rw [h1] at hi1
 have h50:mH l 8 (!e0 && s1.bad == 0) [] s1=c5:=by
  rw [←h5,←he,xV (by decide) (by decide),Bool.and_comm]
 have H:=hm_ h h1 he hi1 h50
 clear h h1 he h5 hX hi1 h50
 have hg:=H.out.1.lt
 go_enter func95,ntmps95
 go_wp2_with fail
 refine (bO T H.out.1 ⟨#[40]⟩ (by decide)).mono ?_
 rw [H.out.2.1]
 rintro r w1 ⟨rfl,hr1,hs1⟩
 have H1:=hj_ (H.out.1.next hr1 hs1 (fun k hk=>by simp at hk;omega) H.out.2.2.2.1) hs1
 clear hr1 hs1
 go_wp2_with fail
 refine (kT T H1.out.1 ⟨#[41]⟩ (by decide)).mono ?_
 rw [H.out.2.2.1]
 rintro r w2 ⟨rfl,hb2⟩
 have H2:=hj_ (H1.out.1.step hb2) (H1.out.2.below_ hb2)
 clear hb2
 go_wp2_with fail
 go_loopg [3,4] 10 (fun k s3 s4 wr=>∃n V v B b al xs s',s3=.slice B al.length b∧s4=.slice V al.length v∧Cw l g A c w wr B b V v al xs s' t∧n<k∧n+al.length=8∧((!e0 && s'.bad == 0)=true→al.length≤4)∧mH l n (!e0 && s'.bad == 0) al s'=c5)
 case atStart=>exact ⟨8,none,0,none,0,[],[],s1,rfl,rfl,⟨aR.nil _ _ _ _ _,rfl,fun q hq=>by simp at hq,aR.nil _ _ _ _ _,fun k hk=>by simp [Value.ownBlock] at hk,H2.out.1,H2.out.2,hg⟩,by omega,rfl,fun _=>by simp,H.out.2.2.2.2⟩
 case round=>
  obtain ⟨n,V,v,B,b,al,xs,s',rfl,rfl,hW,hnk,hnl,hq4,hans⟩:=hrel
  obtain ⟨gk,rfl⟩:=pk_ gk 1 (by omega)
  have HW:=hid hW
  have HANS:=hid hans
  obtain ⟨⟨q0,q1,q2,q3,q4,q5⟩,_⟩:=iQ hW.rdr.rd
  have hgl:=hW.rdr.lt
  clear hW hans
  obtain ⟨q,hq⟩:=nm_ (!e0 && s'.bad == 0)
  rw [hq] at HANS hq4
  cases q with
  | false=>
   have hfin:(al,s')=c5:=by
    have h:=HANS.out
    cases n with
    | zero=>exact h
    | succ n=>rw [mH,K_ (by decide)] at h;exact h
   have HF:=hid hfin
   have key:e0=true∨e0=false∧(s'.bad == 0)=false:=by
    cases e0
    ·exact .inr ⟨rfl,by simpa using hq⟩
    ·exact .inl rfl
   clear hfin hq4 hq
   rcases key with rfl | ⟨rfl,t1⟩
   all_goals
    go_wp2_with fail
    refine (bO T HW.out.rdr ⟨#[41]⟩ (by decide)).mono ?_
    rintro e w5 ⟨rfl,hr5,hs5⟩
    have HW5:=hid (HW.out.step hs5 hr5 (aQ T.fin ⟨#[41]⟩ (by decide) HW.out.rdr.inr).1)
    clear hr5 hs5
    go_wp2_with fail
    refine (bO T HW5.out.rdr ⟨#[59]⟩ (by decide)).mono ?_
    rintro e w6 ⟨rfl,hr6,hs6⟩
    have HW6:=hid (HW5.out.step hs6 hr6 (aQ T.fin ⟨#[59]⟩ (by decide) HW5.out.rdr.inr).1)
    clear hr6 hs6
    go_wp2_with fail
    go_ret
    rw [←HF.out]
    exact HW6.out.post
  | true=>
   have h4:=hq4 rfl
   obtain ⟨rfl,hbad⟩:e0=false∧(s'.bad == 0)=true:=by
    cases e0
    ·exact ⟨rfl,by simpa using hq⟩
    ·exact absurd hq (by simp)
   obtain ⟨m,rfl⟩:=pk_ n 1 (by omega)
   obtain ⟨a2,h2⟩:=nm_ (bG l (al.map (·.name)) (cS l ((al.map (·.name)).length:Nat) 4 s'))
   obtain ⟨s3',h3⟩:=nm_ (bC l ⟨#[61]⟩ a2.2)
   obtain ⟨⟨e4,s4'⟩,h4'⟩:∃x,dZ l s3'=x:=⟨_,rfl⟩
   obtain ⟨c6,h6⟩:=nm_ (aF l ⟨#[44]⟩ s4')
   have hap:Ds l (al.map (·.name)) s'=(⟨a2.1,e4⟩,s4'):=by
    unfold Ds
    simp only [h2,h3,h4']
   have hans:mH l m c6.1 (al++[⟨a2.1,e4⟩]) c6.2=c5:=by
    have h:=HANS.out
    rw [mH,M_ rfl,hap] at h
    rw [←h6]
    exact h
   have hlt4:c6.1=true→al.length+1≤4:=fun hc=>by
    by_cases h5:al.length=4
    ·have hb:=zQ (l:=l) (had:=al.map (·.name)) (s:=s') (by rw [U_];exact h5)
     rw [hap] at hb
     rw [←h6] at hc
     exact absurd (nT (by decide) hc) hb
    ·omega
   have HS:=hid (⟨h2,h3,h4',h6,hans,hlt4⟩:_∧_∧_∧_∧_∧_)
   have HNM:=hid (lA T HW.out.rdr (cc:=v) (had:=al.map (·.name)) HW.out.names.strs 4 (by rw [U_];omega))
   rw [h2,U_] at HNM
   clear h2 h3 h4' h6 hap hans hlt4 hq4 hq
   go_wp2_with fail
   refine HNM.out.mono ?_
   rintro e w3 ⟨rfl,hr3,hs3⟩
   have hin3:iY l a2.2:=by
    have h0:=mT (l:=l) (((al.map (·.name)).length:Nat):Int) 4 HW.out.rdr.inr
    have:=(cT T.fin (al.map (·.name)) h0.1).1
    rwa [HS.out.1] at this
   have HW3:=hid (HW.out.step hs3 hr3 hin3)
   clear hr3 hs3 hin3 q0 q1 q2 q3 q4 q5 hgl
   go_wp2_with fail
   refine (bO T HW3.out.rdr ⟨#[61]⟩ (by decide)).mono ?_
   rw [HS.out.2.1]
   rintro e w4 ⟨rfl,hr4,hs4⟩
   have HW4:=hid (HW3.out.step hs4 hr4 (by have:=(aQ T.fin ⟨#[61]⟩ (by decide) HW3.out.rdr.inr).1;rwa [HS.out.2.1] at this))
   clear hr4 hs4
   go_wp2_with fail
   refine (Bb hl HW4.out.rdr).mono ?_
   rw [HS.out.2.2.1]
   rintro e w5 ⟨eB,ed,rfl,hx5,hr5,hs5⟩
   simp only at hx5 hr5
   have HW5:=hid (HW4.out.step hs5 hr5 (by have:=(lM T.take HW4.out.rdr.inr).1;rwa [HS.out.2.2.1] at this))
   have hav:Av oH (fun k=>(k<w.heap.size∨(Value.slice V al.length v).ownBlock=some k)∨(Value.slice B al.length b).ownBlock=some k) w5 ⟨a2.1,e4⟩ [.string a2.1,.int .i64 e4.op,.int .i64 e4.n,.string e4.name,.slice eB e4.kids.length ed]:=
    Av.ar (hx5.more (fun k hk=>.inl (by
     have h0:=HW4.out.same.size
     rcases hk with (hk | hk) | hk
     ·omega
     ·exact (HW4.out.names.blk k hk).2
     ·exact (HW4.out.rows.blk k hk).2)))
   have HAV:=hid hav
   clear hx5 hr5 hs5 hav
   go_wp2_with (at_builtin;refine Hid.out ?_)
   refine hid ?_
   refine cL (by rfl) _ _ _ (by rfl) (.agg #[.string ⟨#[]⟩,.int .i64 0,.int .i64 0,.string ⟨#[]⟩,.slice none 0 0]) 72 underlying38 Lj (by rfl) (by decide) (by rfl) HW5.out.rows (⟨a2.1,e4⟩:Ar) #[.string a2.1,.int .i64 e4.op,.int .i64 e4.n,.string e4.name,.slice eB e4.kids.length ed] _ (by rfl) (by rfl) (by simp [Value.oneCell']) HAV.out (by unfold maxLen;omega) (by omega) HW5.out.same.size ?_
   intro g2 cap2 w6 hG2 hS2 hg2
   have hn6:=HW5.out.names.keepS hS2 (fun k hk e=>HW5.out.apart k (by simpa using hk) e)
   have H6:=hm_ hG2 hS2 hg2.2.2 hn6 (d_ HW5.out.same.size hS2.size)
   clear hG2 hS2 hg2 hn6
   go_wp2_with (at_builtin;refine Hid.out ?_)
   refine hid ?_
   refine cL (by rfl) _ _ _ (by rfl) (.string ⟨#[]⟩) 16 underlying37 gM (by rfl) (by decide) (by rfl) H6.out.2.2.2.1 a2.1 #[.string a2.1] _ (by rfl) (by rfl) (by simp [Value.oneCell']) (Av.str _ _ _) (by unfold maxLen;omega) (by omega) H6.out.2.2.2.2 ?_
   intro g3 cap3 w7 hG3 hS3 hg3
   have HW7:=hid (HW5.out.push (a:=⟨a2.1,e4⟩) (by rfl) H6.out.1 H6.out.2.1 H6.out.2.2.1 hG3 hS3 hg3.2.2)
   clear hG3 hS3 hg3
   go_wp2_with fail
   refine (kT T HW7.out.rdr ⟨#[44]⟩ (by decide)).mono ?_
   rw [HS.out.2.2.2.1]
   rintro e w8 ⟨rfl,hb8⟩
   have HW8:=hid (HW7.out.step (Same.of_below hb8) (HW7.out.rdr.step hb8).rd HW7.out.rdr.inr)
   clear hb8
   obtain ⟨cm,hcm⟩:=nm_ c6.1
   have HC:=hid hcm
   rw [hcm]
   clear hcm
   cases cm with
   | false=>
    have hfin:(al++[⟨a2.1,e4⟩],s4')=c5:=by
     have h:=HS.out.2.2.2.2.1
     have h0:=nC (l:=l) (x:=⟨#[44]⟩) (s:=s4') (by rw [HS.out.2.2.2.1];exact HC.out)
     rw [HS.out.2.2.2.1] at h0
     rw [HC.out,h0] at h
     cases m with
     | zero=>exact h
     | succ m=>rw [mH,K_ (by decide)] at h;exact h
    have HF:=hid hfin
    clear hfin
    go_wp2_with fail
    refine (bO T HW8.out.rdr ⟨#[41]⟩ (by decide)).mono ?_
    rintro e w5' ⟨rfl,hr5,hs5⟩
    have HW9:=hid (HW8.out.step hs5 hr5 (aQ T.fin ⟨#[41]⟩ (by decide) HW8.out.rdr.inr).1)
    clear hr5 hs5
    go_wp2_with fail
    refine (bO T HW9.out.rdr ⟨#[59]⟩ (by decide)).mono ?_
    rintro e w6' ⟨rfl,hr6,hs6⟩
    have HW10:=hid (HW9.out.step hs6 hr6 (aQ T.fin ⟨#[59]⟩ (by decide) HW9.out.rdr.inr).1)
    clear hr6 hs6
    go_wp2_with fail
    go_ret
    rw [←HF.out]
    have hp:=HW10.out.post
    rw [show (al++[(⟨a2.1,e4⟩:Ar)]).length=al.length+1 by simp] at hp
    exact hp
   | true=>
    have hmt:=eI (l:=l) (x:=⟨#[44]⟩) (s:=s4') (by rw [HS.out.2.2.2.1];exact HC.out)
    have hok:=Fu (l:=l) (x:=⟨#[44]⟩) (s:=s4') (by rw [HS.out.2.2.2.1];exact HC.out)
    rw [HS.out.2.2.2.1] at hmt hok
    have HM:=hj_ hmt hok
    clear hmt hok
    go_wp2_with fail
    refine (bO T HW8.out.rdr ⟨#[44]⟩ (by decide)).mono ?_
    rw [HM.out.1]
    rintro e w9 ⟨rfl,hr9,hs9⟩
    have HW9:=hid (HW8.out.step hs9 hr9 (by have:=(aQ T.fin ⟨#[44]⟩ (by decide) HW8.out.rdr.inr).1;rwa [HM.out.1] at this))
    clear hr9 hs9
    go_wp2_with fail
    go_roundg gk
    case measure=>omega
    case rel=>
     have hbz:(c6.2.bad == 0)=true:=D_ HM.out.2
     exact ⟨m,some ⟨g3,0,none⟩,cap3,some ⟨g2,0,none⟩,cap2,al++[⟨a2.1,e4⟩],_,c6.2,by simp,by simp,HW9.out,by omega,by simp;omega,fun _=>by have:=HS.out.2.2.2.2.2 HC.out;simpa using this,by rw [hbz];have:=HS.out.2.2.2.2.1;rw [HC.out] at this;exact this⟩
end Go.Proofs.YtgcfjkfipkfijaaGreatDoor
