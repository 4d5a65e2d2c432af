/- Part 28 of the proof of rtrees_card; no conditions. -/
import Derived.Test.YtgcfjkfipkfijaaGreatDoorTr01
import Derived.Test.YtgcfjkfipkfijaaGreatDoorTr27
import Derived.OwnWalk
import Derived.Deep.AppendLies
set_option maxRecDepth 100000
set_option maxHeartbeats 8000000
namespace Go.Proofs.YtgcfjkfipkfijaaGreatDoor
open Go Go.RowKit Go.Lib _root_.Go.Proofs.Tryz
variable {xs : List Value} {base k n : Nat} {v : Value} {w : World}
def xN:aN Int:=aN.int .i64
def zB (x:Int):List Value:=[.int .i64 x]
theorem Tf (M w x):xN.rep M w x (zB x):=rfl
theorem Tg (x):(zB x).length=xN.sz:=rfl
theorem Fj:(Tryz.prog.info? 3).map (fun i=>(i.zero,i.size,i.bytes))=some (some (.int .i64 0),1,8):=by kernel_rfl
theorem iM {M w A ks} (h:xN.Row M w A ks) (k) (hk:k<ks.length):∃ad,A=some ad∧w.cell? (ad.add k)=some (.int .i64 ks[k]):=by
 obtain ⟨ad,cs,e,_,hr,hc⟩:=h.at_ k hk
 have hr':cs=[.int .i64 ks[k]]:=hr
 subst hr'
 have:=hc 0 _ rfl
 rw [show k*xN.sz+0=k by show k*1+0=k;omega] at this
 exact ⟨ad,e,this⟩
theorem iN {v0 v1 v2:Value} {t:TypeId} (h:w.heap[k]? = some (.cells #[v0,v1,v2] t (0,0))) :
  (w.cell? ⟨k,0,none⟩=some v0∧w.cell? ⟨k,1,none⟩=some v1∧w.cell? ⟨k,2,none⟩=some v2)∧w.frozen? ⟨k,0,none⟩=false∧w.frozen? ⟨k,1,none⟩=false∧w.frozen? ⟨k,2,none⟩=false:=
 ⟨⟨aB h 0,aB h 1,aB h 2⟩,aD h 0,aD h 1,aD h 2⟩
abbrev xO (w:World) (k:Nat) (s:ByteArray) (r a:Value):Prop:=w.heap[k]? = some (.cells #[.string s,r,a] 99 (0,0))
abbrev zC (w:World) (base:Nat) (v:Value) (l:List Int):Prop:=w.ownsRow base 3 1 v l.length (l.flatMap zB)
def Cr (s:ByteArray) (w:World) (r:Ending) (w':World):Prop:=∃(R Z:List Int) (A:Option Addr) (a:Nat) (B:Option Addr) (b:Nat) (ok:Bool),
 R=mG (aI s.data.toList) 0∧Z=lT (aI s.data.toList) 0∧ok=fO (aI s.data.toList) ∧
 r=.returned (.tuple #[.agg #[.string s,.slice A R.length a,.slice B Z.length b],.bool ok])∧R.length≤a∧Z.length≤b∧xN.Row [] w' A R∧xN.Row [] w' B Z∧Below w.heap.size w w'
structure Fk (s:ByteArray) (pos:Nat) (R Z:List Int):Prop where
 at_:pos≤s.size
 len:R.length≤pos
 same:Z.length=R.length
 row:mG (aI s.data.toList) 0=R++mG (aI (s.data.toList.drop pos)) pos
 places:lT (aI s.data.toList) 0=Z++lT (aI (s.data.toList.drop pos)) pos
 ok:fO (aI s.data.toList)=fO (aI (s.data.toList.drop pos))
theorem Fk.step {s pos R Z} (h:Fk s pos R Z) (hp:pos<s.size) (hb:Utf8.decode s pos≠(65533,1)) :
  Fk s (pos+(Utf8.decode s pos).2) (R++[((Utf8.decode s pos).1:Int)]) (Z++[(pos:Int)]):=by
 have hr:=iH s pos hp
 have hw:=Lib.decode_width_pos s pos hp
 have hf:=jN s pos hp
 obtain ⟨h1,h2,h3,h4,h5,h6⟩:=h
 rw [hr] at h4 h5 h6
 rw [mG,K_ hb] at h4
 rw [lT,K_ hb] at h5
 rw [fO,K_ hb] at h6
 refine ⟨hf,?_,?_,?_,?_,h6⟩
 ·rw [O_,List.length_singleton];omega
 ·rw [O_,O_,List.length_singleton,List.length_singleton,h3]
 ·rw [h4,p_];rfl
 ·rw [h5,p_];rfl
theorem Lx {w base v l} (h:zC w base v l):∃A c,v=.slice A l.length c∧l.length≤c∧xN.Row [] w A l:=
 nN (d:=xN) (enc:=zB) Tg h (M:=[]) (fun k hk=>by simp at hk) (fun x _=>Tf _ _ x)
theorem AJ {s w w' A B a b base R Z ok} (hR:R=mG (aI s.data.toList) 0) (hZ:Z=lT (aI s.data.toList) 0) (hk:ok=fO (aI s.data.toList)) (h1:zC w' base (.slice A R.length a) R) (h2:zC w' base (.slice B Z.length b) Z) (hb:Below w.heap.size w w'):Cr s w (.returned (.tuple #[.agg #[.string s,.slice A R.length a,.slice B Z.length b],.bool ok])) w':=by
 obtain ⟨A',a',e1,l1,r1⟩:=Lx h1
 obtain ⟨B',b',e2,l2,r2⟩:=Lx h2
 injection e1 with e1 _ e3
 injection e2 with e2 _ e4
 subst e1 e2 e3 e4
 exact ⟨R,Z,A,a,B,b,ok,hR,hZ,hk,rfl,l1,l2,r1,r2,hb⟩
def Th (r z:Value):Prop:=z.ownBlock=none∨z.ownBlock≠r.ownBlock
theorem xP {g:Nat} {c:Nat} {z:Value} {m:Nat} (h:Th v z) (hz:w.ownsRow base 3 1 z m xs) (hat:v.ownBlock=some g∨g=w.heap.size+1):Th z (.slice (some ⟨g,0,none⟩) n c):=by
 right
 show some g≠z.ownBlock
 rcases hat with e | e
 ·rw [←e]
  rcases h with h | h
  ·rw [e,h];simp
  ·exact fun e=>h e.symm
 ·intro e2
  have:=(aS hz g e2.symm).2
  omega
theorem sU {P:Nat} (h:w.ownsRow base 3 1 v n xs) (hP:P<base) (a b c):(((w.setCell ⟨P,0,none⟩ a).setCell ⟨P,1,none⟩ b).setCell ⟨P,2,none⟩ c).ownsRow base 3 1 v n xs:=by
 have hne:v.ownBlock≠some P:=fun e=>by have:=(aS h P e).1;omega
 exact jJ (jJ (jJ h (p:=⟨P,0,none⟩) hne a) (p:=⟨P,1,none⟩) hne b) (p:=⟨P,2,none⟩) hne c
theorem xQ {B P w W} (h:Below B w W) (hP:B≤P) (a b c):Below B w (((W.setCell ⟨P,0,none⟩ a).setCell ⟨P,1,none⟩ b).setCell ⟨P,2,none⟩ c):=
 ((h.setCell hP a).setCell hP b).setCell hP c
theorem kZ {w':World} {o:Obj} {ob:Obj} (h:w.ownsRow base 3 1 v n xs) (hg:(w.alloc o).grownBy w' v.ownBlock) (hk:w.heap[k]? = some ob) (hb:k<base):w'.heap[k]? = some ob:=by
 have hne:some k≠v.ownBlock:=fun e=>by have:=(aS h k e.symm).1;omega
 have hl:k<w.heap.size:=aC hk
 exact (hg.block k (by simp;omega) hne).trans ((((J_ w.heap.size w).alloc le_ o).block k hl).trans hk)
theorem xR (s w) (hs:s.size≤17592186044400):Calls prog 57 #[.string s] w (Cr s w):=by
 have hsz:(s.size:Int)≤17592186044400:=by omega
 obtain ⟨w0,hw0,hal,_⟩:=alo_ w (.cells #[.string ⟨#[]⟩,.slice none 0 0,.slice none 0 0] 99 (0,0))
 have hq:xO w0 w.heap.size ⟨#[]⟩ (.slice none 0 0) (.slice none 0 0):=hw0▸I_ _ _
 obtain ⟨P,hP⟩:=nm_ w.heap.size
 obtain ⟨w1,hw1,hb1,_⟩:=alo_ w0 (.cells #[.string s,.slice none 0 0,.slice none 0 0] 99 (0,0))
 have hq1:xO w1 w0.heap.size s (.slice none 0 0) (.slice none 0 0):=hw1▸I_ _ _
 obtain ⟨G,hG⟩:=nm_ w0.heap.size
 have HPG:Hid (P<G):=hid (by rw [←hP,←hG];exact aC hq)
 have HP1:Hid (xO w1 P ⟨#[]⟩ (.slice none 0 0) (.slice none 0 0)):=hid (by rw [←hP];exact (hb1.block _ (aC hq)).trans hq)
 have HG1:Hid (xO w1 G s (.slice none 0 0) (.slice none 0 0)):=hid (by rw [←hG];exact hq1)
 have HB1:Hid (Below P w w1):=hid (by rw [←hP];exact hal.trans (hb1.mono hal.size))
 have HW:=hid hP
 have HW1:=hid hw1
 have HWG:=hid hG
 have HR0:Hid (Fk s 0 [] []):=hid ⟨by omega,by simp,rfl,by simp,by simp,by simp⟩
 clear hal hq hb1 hq1 hw1
 go_enter func57,ntmps57
 go_wp2_with fail
 rw [HW1.out]
 clear hw0 hG hP
 go_loopg [5] (s.size+1) (fun k s5 w'=>∃(pos:Nat) (R Z:List Int) (A:Option Addr) (a:Nat) (B:Option Addr) (b:Nat),s5=.int .i64 pos∧s.size - pos<k ∧
  xO w' G s (.slice A R.length a) (.slice B Z.length b)∧xO w' P ⟨#[]⟩ (.slice none 0 0) (.slice none 0 0)∧zC w' (G+1) (.slice A R.length a) R∧zC w' (G+1) (.slice B Z.length b) Z ∧
  Th (.slice A R.length a) (.slice B Z.length b)∧Fk s pos R Z∧Below P w w')
 case atStart=>exact ⟨0,[],[],none,0,none,0,rfl,by omega,HG1.out,HP1.out,⟨rfl,.inl ⟨rfl,rfl⟩⟩,⟨rfl,.inl ⟨rfl,rfl⟩⟩,.inl rfl,HR0.out,HB1.out⟩
 case round=>
  obtain ⟨pos,R,Z,A,a,B,b,rfl,hk,hg,hpz,ho1,ho2,hap,hra,hbl⟩:=hrel
  obtain ⟨gk,rfl⟩:=pk_ gk 1 (by omega)
  have HGr:=hid hg
  have HPr:=hid hpz
  have HO1:=hid ho1
  have HO2:=hid ho2
  have HAP:=hid hap
  have HRA:=hid hra
  have HBL:=hid hbl
  have hat:=hra.at_
  have hlen:=hra.len
  have hzl:Z.length≤pos:=by have:=hra.same;have:=hra.len;omega
  have hpos0:(0:Int)≤pos:=by omega
  clear HG1 HP1 HR0 HB1 ho1 ho2 hap hra hbl
  by_cases hp:pos<s.size
  ·have hpz':(pos:Int)<s.size:=by omega
   have hwd:=Lib.decode_width_pos s pos hp
   have hfit:=jN s pos hp
   have hle:=lE s pos
   obtain ⟨⟨x0,x1,x2⟩,fg⟩:=iN hg
   obtain ⟨⟨y0,y1,y2⟩,g0,g1,g2⟩:=iN hpz
   have hlG:=aC hg
   have hlP:=aC hpz
   clear hg hpz
   have HRU:=hid (Ot s pos wr hp (by omega))
   by_cases hbad:Utf8.decode s pos=(65533,1)
   ·have HX:Hid (false=fO (aI s.data.toList)∧R=mG (aI s.data.toList) 0∧Z=lT (aI s.data.toList) 0):=hid (by
     have h:=HRA.out
     obtain ⟨_,_,_,h4,h5,h6⟩:=h
     rw [iH s pos hp] at h4 h5 h6
     rw [mG,M_ hbad,List.append_nil] at h4
     rw [lT,M_ hbad,List.append_nil] at h5
     rw [fO,M_ hbad] at h6
     exact ⟨h6.symm,h4.symm,h5.symm⟩)
    rw [hbad,Oq] at HRU
    clear hbad hwd hfit hle
    go_wp2_with fail
    refine HRU.out.mono ?_
    rintro r w2 ⟨rfl,rfl⟩
    go_wp2
    refine L_ (v:=.tuple #[.agg #[.string s,.slice A R.length a,.slice B Z.length b],.bool false]) (by simp [results,results57,go_sem, *]) rfl ?_
    obtain ⟨e1,e2,e3⟩:=HX.out
    have hPG:=HPG.out
    exact AJ e2 e3 e1 (sU HO1.out (by omega) _ _ _) (sU HO2.out (by omega) _ _ _) (by rw [HW.out];exact xQ HBL.out le_ _ _ _)
   ·have HST:=hid (HRA.out.step hp hbad)
    obtain ⟨r,n,hd⟩:∃r n,Utf8.decode s pos=(r,n):=⟨_,_,rfl⟩
    rw [hd] at HRU HST hwd hfit hle hbad
    rw [pE (fun e=>hbad (by rw [e.1,e.2]))] at HRU
    have hnb:((n:Int) == 0)=false:=aW (by simp at hwd;omega)
    simp only at hwd hfit hle
    have hPG:=HPG.out
    obtain ⟨i0,hi0,hz0,hz1,hz2⟩:=info_parts Fj
    clear hd hbad
    go_wp2_with fail
    refine HRU.out.mono ?_
    rintro e w2 ⟨rfl,rfl⟩
    go_wp2_with (at_builtin;refine wpList_append_lies _ (by rfl) _ _ _ (by rfl) (G+1) 3 i0 _ 1 8 underlying36 hi0 hz0 hz1 hz2 rfl (by omega) (.slice A R.length a) R.length (R.flatMap zB) (by rfl) (HO1.out.alloc _) ⟨w2.heap.size,0,none⟩ 1 1 [.int .i64 r] (by rfl) (by rfl) (World.news_of_block (cs:=#[.int .i64 r]) (t:=3) (fr:=(0,0)) (I_ w2 _)) (by simp [Value.oneCell']) (by omega) (by unfold maxLen;omega) (by omega) (by simp;omega) (w2.heap.size+1) (by simp) ?_;intro g cap w3 hown3 hgrow hat3 hlt3;refine Hid.out ?_)
    refine hid ?_
    have hg3:=kZ HO1.out hgrow HGr.out (o_ G)
    have hp3:=kZ HO1.out hgrow HPr.out (by omega)
    have ho3:w3.ownsRow (G+1) 3 1 (.slice B Z.length b) Z.length (Z.flatMap zB):=(HO2.out.alloc _).kept hgrow HAP.out
    have hap3:=xP (n:=R.length+1) (c:=cap) HAP.out HO2.out hat3
    have hb3:Below P w w3:=((Same.of_below (M:=[]) (by rw [HW.out];exact HBL.out)).alloc _ |>.grown hgrow (fun k hk=>.inr (by have:=(aS HO1.out k hk).1;have:=HW.out;omega))).below.mono (by rw [HW.out];exact H_ _)
    clear x0 x1 x2 y0 y1 y2 fg g0 g1 g2 hlG hlP
    obtain ⟨⟨x0,x1,x2⟩,f0,f1,f2⟩:=iN hg3
    have hlG:=aC hg3
    obtain ⟨N3,hN3⟩:=nm_ w3.heap.size
    obtain ⟨w4,hw4⟩:=nm_ (w3.setCell ⟨G,1,none⟩ (.slice (some ⟨g,0,none⟩) (R.length+1) cap))
    have hN4:w4.heap.size=N3:=by rw [←hw4,←hN3];simp [World.setCell]
    have hg4:xO w4 G s (.slice (some ⟨g,0,none⟩) (R.length+1) cap) (.slice B Z.length b):=by rw [←hw4];exact aZ hg3 1 _
    have hp4:xO w4 P ⟨#[]⟩ (.slice none 0 0) (.slice none 0 0):=by rw [←hw4];exact (Below.heap_setCell _ ⟨G,1,none⟩ _ P (by show P≠G;omega)).trans hp3
    have hr4:w4.ownsRow (G+1) 3 1 (.slice (some ⟨g,0,none⟩) (R.length+1) cap) (R.length+1) (R.flatMap zB++[.int .i64 r]):=by
     rw [←hw4];exact jJ hown3 (p:=⟨G,1,none⟩) (fun e=>by have:=(aS hown3 G e).1;omega) _
    have ho4:w4.ownsRow (G+1) 3 1 (.slice B Z.length b) Z.length (Z.flatMap zB):=by
     rw [←hw4];exact jJ ho3 (p:=⟨G,1,none⟩) (fun e=>by have:=(aS ho3 G e).1;omega) _
    have hb4:Below P w w4:=by rw [←hw4];exact hb3.setCell (by show P≤G;omega) _
    obtain ⟨⟨k0,k1,k2⟩,e0,e1,e2⟩:=iN hg4
    have hlG4:=aC hg4
    have HG4:=hid hg4
    have HP4:=hid hp4
    have HR4:=hid hr4
    have HO4:=hid ho4
    have HB4:=hid hb4
    have HAP4:=hid hap3
    have HNEW:Hid (∀o,(w4.alloc o).heap[N3]? = some o):=hid (fun o=>by rw [←hN4];exact I_ w4 o)
    clear hg3 hp3 hown3 ho3 hb3 hgrow hat3 hlt3 hap3 hg4 hp4 hr4 ho4 hb4
    go_wp2_with (at_builtin;refine wpList_append_lies _ (by rfl) _ _ _ (by rfl) (G+1) 3 i0 _ 1 8 underlying36 hi0 hz0 hz1 hz2 rfl (by omega) (.slice B Z.length b) Z.length (Z.flatMap zB) (by rfl) (HO4.out.alloc _) ⟨N3,0,none⟩ 1 1 [.int .i64 pos] (by rfl) (by rfl) (World.news_of_block (cs:=#[.int .i64 pos]) (t:=3) (fr:=(0,0)) (HNEW.out _)) (by simp [Value.oneCell']) (by omega) (by unfold maxLen;omega) (by omega) (by simp;omega) (w4.heap.size+1) (by simp) ?_;intro g2 cap2 w5 hown5 hgrow5 hat5 hlt5;refine Hid.out ?_)
    refine hid ?_
    have hg5:=kZ HO4.out hgrow5 HG4.out (o_ G)
    have hp5:=kZ HO4.out hgrow5 HP4.out (by omega)
    have ho5:=(HR4.out.alloc _).kept hgrow5 (.inr (by rcases HAP4.out with h | h;cases h;exact h))
    have hap5:=xP (n:=Z.length+1) (c:=cap2) HAP4.out HR4.out hat5
    have hb5:Below P w w5:=((Same.of_below (M:=[]) (by rw [HW.out];exact HB4.out)).alloc _ |>.grown hgrow5 (fun k hk=>.inr (by have:=(aS HO4.out k hk).1;have:=HW.out;omega))).below.mono (by rw [HW.out];exact H_ _)
    clear x0 x1 x2 f0 f1 f2 k0 k1 k2 e0 e1 e2 hlG hlG4 hw4 hN3 hN4
    obtain ⟨⟨x0,x1,x2⟩,f0,f1,f2⟩:=iN hg5
    have hlG:=aC hg5
    have HG5:=hid hg5
    have HP5:=hid hp5
    have HR5:=hid ho5
    have HZ5:=hid hown5
    have HB5:=hid hb5
    have HAP5:=hid hap5
    clear hg5 hp5 ho5 hown5 hb5 hgrow5 hat5 hlt5 hap5
    go_wp2_with fail
    go_roundg gk
    case measure=>omega
    case rel=>
     have hl1:(R++[(r:Int)]).length=R.length+1:=by simp
     have hl2:(Z++[(pos:Int)]).length=Z.length+1:=by simp
     refine ⟨pos+n,R++[(r:Int)],Z++[(pos:Int)],some ⟨g,0,none⟩,cap,some ⟨g2,0,none⟩,cap2,by go_num,by omega,?_,?_,?_,?_,?_,HST.out,?_⟩
     ·rw [hl1,hl2];exact aZ HG5.out 2 _
     ·exact (Below.heap_setCell _ ⟨G,2,none⟩ _ P (by show P≠G;omega)).trans HP5.out
     ·unfold zC
      rw [hl1,q_]
      exact jJ HR5.out (p:=⟨G,2,none⟩) (fun e=>by have:=(aS HR5.out G e).1;omega) _
     ·unfold zC
      rw [hl2,q_]
      exact jJ HZ5.out (p:=⟨G,2,none⟩) (fun e=>by have:=(aS HZ5.out G e).1;omega) _
     ·rw [hl1,hl2];exact HAP5.out
     ·exact HB5.out.setCell (by show P≤G;omega) _
  ·obtain rfl:pos=s.size:=by omega
   have hnz:¬((s.size:Int)<s.size):=by omega
   obtain ⟨⟨x0,x1,x2⟩,f0,f1,f2⟩:=iN hg
   have hlG:=aC hg
   have hlP:=aC hpz
   have hPG:=HPG.out
   have HX:Hid (true=fO (aI s.data.toList)∧R=mG (aI s.data.toList) 0∧Z++[(s.size:Int)]=lT (aI s.data.toList) 0):=hid (by
    have h:=HRA.out
    obtain ⟨_,_,_,h4,h5,h6⟩:=h
    rw [fX s s.size (by omega)] at h4 h5 h6
    rw [mG,List.append_nil] at h4
    exact ⟨h6.symm,h4.symm,h5.symm⟩)
   obtain ⟨i0,hi0,hz0,hz1,hz2⟩:=info_parts Fj
   clear hg hpz
   go_wp2_with (at_builtin;refine wpList_append_lies _ (by rfl) _ _ _ (by rfl) (G+1) 3 i0 _ 1 8 underlying36 hi0 hz0 hz1 hz2 rfl (by omega) (.slice B Z.length b) Z.length (Z.flatMap zB) (by rfl) (HO2.out.alloc _) ⟨wr.heap.size,0,none⟩ 1 1 [.int .i64 s.size] (by rfl) (by rfl) (World.news_of_block (cs:=#[.int .i64 s.size]) (t:=3) (fr:=(0,0)) (I_ wr _)) (by simp [Value.oneCell']) (by omega) (by unfold maxLen;omega) (by omega) (by simp;omega) (wr.heap.size+1) (by simp) ?_;intro g2 cap2 w5 hown5 hgrow5 hat5 hlt5;refine Hid.out ?_)
   refine hid ?_
   have hg5:=kZ HO2.out hgrow5 HGr.out (o_ G)
   have hp5:=kZ HO2.out hgrow5 HPr.out (by omega)
   have ho5:=(HO1.out.alloc _).kept hgrow5 (by
    rcases HAP.out with h | h
    ·rw [h]
     cases hv:(Value.slice A R.length a).ownBlock with
     | none=>exact .inl rfl
     | some k=>exact .inr (by simp)
    ·exact .inr (fun e=>h e.symm))
   have hb5:Below P w w5:=((Same.of_below (M:=[]) (by rw [HW.out];exact HBL.out)).alloc _ |>.grown hgrow5 (fun k hk=>.inr (by have:=(aS HO2.out k hk).1;have:=HW.out;omega))).below.mono (by rw [HW.out];exact H_ _)
   clear x0 x1 x2 f0 f1 f2 hlG hlP
   obtain ⟨⟨x0,x1,x2⟩,f0,f1,f2⟩:=iN hg5
   obtain ⟨N5,hN5⟩:=nm_ w5.heap.size
   obtain ⟨w6,hw6⟩:=nm_ (w5.setCell ⟨G,2,none⟩ (.slice (some ⟨g2,0,none⟩) (Z.length+1) cap2))
   have hN6:w6.heap.size=N5:=by rw [←hw6,←hN5];simp [World.setCell]
   have hg6:xO w6 G s (.slice A R.length a) (.slice (some ⟨g2,0,none⟩) (Z.length+1) cap2):=by rw [←hw6];exact aZ hg5 2 _
   have hp6:xO w6 P ⟨#[]⟩ (.slice none 0 0) (.slice none 0 0):=by rw [←hw6];exact (Below.heap_setCell _ ⟨G,2,none⟩ _ P (by show P≠G;omega)).trans hp5
   have hr6:zC w6 (G+1) (.slice A R.length a) R:=by
    rw [←hw6];exact jJ ho5 (p:=⟨G,2,none⟩) (fun e=>by have:=(aS ho5 G e).1;omega) _
   have hl2:(Z++[(s.size:Int)]).length=Z.length+1:=by simp
   have hz6:zC w6 (G+1) (.slice (some ⟨g2,0,none⟩) (Z++[(s.size:Int)]).length cap2) (Z++[(s.size:Int)]):=by
    unfold zC
    rw [←hw6,hl2,q_]
    exact jJ hown5 (p:=⟨G,2,none⟩) (fun e=>by have:=(aS hown5 G e).1;omega) _
   have hb6:Below P w w6:=by rw [←hw6];exact hb5.setCell (by show P≤G;omega) _
   obtain ⟨⟨k0,k1,k2⟩,e0,e1,e2⟩:=iN hg6
   obtain ⟨⟨y0,y1,y2⟩,u0,u1,u2⟩:=iN hp6
   have hlG:=aC hg6
   have hlP:=aC hp6
   have hlG5:=aC hg5
   have HR6:=hid hr6
   have HZ6:=hid hz6
   have HB6:=hid hb6
   have HL2:=hid hl2
   clear hg5 hp5 ho5 hown5 hb5 hgrow5 hat5 hlt5 hg6 hp6 hr6 hz6 hb6 hl2
   go_wp2
   refine L_ (v:=.tuple #[.agg #[.string s,.slice A R.length a,.slice (some ⟨g2,0,none⟩) (Z.length+1) cap2],.bool true]) (by simp [results,results57,go_sem, *]) rfl ?_
   obtain ⟨q1,q2,q3⟩:=HX.out
   have h:=AJ q2 q3 q1 (sU HR6.out (show P<G+1 by omega) (.string s) (.slice A R.length a) (.slice (some ⟨g2,0,none⟩) (Z.length+1) cap2)) (sU HZ6.out (show P<G+1 by omega) _ _ _) (by rw [HW.out];exact xQ HB6.out le_ _ _ _)
   rw [HL2.out] at h
   exact h
theorem Ou (rs):(rs.map (fun r=>(r.1:Int))).all qJ=iT rs:=by
 unfold iT
 rw [List.all_map]
 rfl
theorem Ov (s w) (hs:s.size≤17592186044400):Calls prog 142 #[.string s] w fun r w'=>r=.returned (.bool (gI s))∧Below w.heap.size w w':=by
 rw [←Td]
 have HRU:=hid (xR s w hs)
 unfold Cr at HRU
 generalize aI s.data.toList=rs at HRU ⊢
 go_enter func142,ntmps142
 go_wp2_with fail
 refine HRU.out.mono ?_
 rintro r w1 ⟨R,Z,A,a,B,b,ok,hR,hZ,hok,rfl,hla,hlb,hra,hrb,hb1⟩
 have HB1:=hid hb1
 have hmax:=hra.1
 clear HRU hZ hlb hrb hb1
 cases ok
 ·have HX:Hid (oM rs=false):=hid (by unfold oM;rw [←hok];rfl)
  clear hR hok hla hra
  go_wp2_with fail
  go_ret
  exact ⟨cO HX.out.symm,HB1.out.alloc HB1.out.size _⟩
 ·have hRm:R=rs.map (fun r=>(r.1:Int)):=by rw [hR];exact xI rs 0 hok.symm
  have hlen:R.length=rs.length:=by rw [hRm,U_]
  have hwo:R.all qJ=iT rs:=by rw [hRm];exact Ou rs
  have hlaz:(R.length:Int)≤a:=by omega
  have hmz:(R.length:Int)≤9223372036854775807:=by omega
  by_cases h0:R.length=0
  ·have HX:Hid (oM rs=false):=hid (by unfold oM;rw [←hlen,h0];simp)
   have h0b:((R.length:Int) == 0)=true:=D_ (by omega)
   clear hR hok hla hra hRm hlen hwo h0
   go_wp2_with fail
   go_ret
   exact ⟨cO HX.out.symm,HB1.out.alloc HB1.out.size _⟩
  ·have h0b:((R.length:Int) == 0)=false:=aW (by omega)
   by_cases h12:12<R.length
   ·have HX:Hid (oM rs=false):=hid (by unfold oM;rw [V_ (show ¬rs.length≤12 by omega)];simp)
    have h12z:(12:Int)<R.length:=by omega
    clear hR hok hla hra hRm hlen hwo h0 h12
    go_wp2_with fail
    go_ret
    exact ⟨cO HX.out.symm,HB1.out.alloc HB1.out.size _⟩
   ·have h12z:(R.length:Int)≤12:=by omega
    have hpz:(0:Int)<R.length:=by omega
    obtain ⟨ad,rfl⟩:=fE hra (by omega)
    obtain ⟨ad',e0,x0⟩:=iM hra 0 (by omega)
    injection e0 with e0
    subst e0
    obtain ⟨r0,hr0⟩:=nm_ (R[0]'(by omega))
    rw [hr0,show ad.add 0=ad from by unfold Addr.add;rw [M_ rfl]] at x0
    have hd:((rs.headD (0,0)).1:Int)=r0:=by
     rw [←hr0]
     cases rs with
     | nil=>exact absurd (show R.length=0 from hlen) (by omega)
     | cons p ps=>simp [hRm]
    have hlt:=N_ w1 _ x0
    have HRA:=hid hra
    obtain ⟨c0,hc0⟩:=nm_ (dJ r0)
    have HC:Hid (∀W,Calls prog 87 #[.int .i64 r0] W fun e w'=>e=.returned (.int .i64 c0)∧W=w'):=hid (fun W=>by have:=rL r0 W;rw [hc0] at this;exact this.mono (fun e w' h=>⟨h.1,h.2.symm⟩))
    have HX:Hid (oM rs=(c0 == 2 && R.all qJ)):=hid (by
     unfold oM
     rw [←hok,hd,hc0,hwo,←hlen,W_ (show 0<R.length by omega),W_ (show R.length≤12 by omega)]
     rfl)
    clear hR hok hla hra hRm hlen hwo h0 h12 hr0 hd hc0
    by_cases hc:c0=2
    ·subst hc
     obtain ⟨ANS,hANS⟩:=nm_ (R.all qJ)
     have HX2:Hid (oM rs=ANS):=hid (by rw [HX.out,hANS];rfl)
     have HANS:=hid hANS
     clear hANS
     obtain ⟨w2,hw2,hb2,_⟩:=alo_ w1 (.cells #[.string s,.slice (some ad) R.length a,.slice B Z.length b] 99 (0,0))
     have hq2:xO w2 w1.heap.size s (.slice (some ad) R.length a) (.slice B Z.length b):=hw2▸I_ _ _
     obtain ⟨⟨y0,y1,y2⟩,_⟩:=iN hq2
     have HRA2:=hid (HRA.out.keep (Same.of_below (M:=[]) hb2))
     have HB2:=tm_ HB1 hb2
     have x0':=(hb2.cell hlt).trans x0
     have hlt':=N_ w2 _ x0'
     clear hb2 hq2 x0 hlt
     go_wp2_with (go_at_call 87;refine (HC.out _).mono ?_;rintro e w' ⟨rfl,rfl⟩)
     go_loopg [5] (R.length+1) (fun k s5 w'=>∃i:Nat,s5=.int .i64 i∧i≤R.length∧R.length - i<k∧(R.drop i).all qJ=ANS∧w'=w2)
     case atStart=>exact ⟨0,rfl,by omega,by omega,HANS.out,rfl⟩
     case round=>
      obtain ⟨i,rfl,hi,hik,hans,rfl⟩:=hrel
      obtain ⟨gk,rfl⟩:=pk_ gk 1 (by omega)
      have hi0:(0:Int)≤i:=by omega
      by_cases hlt:i<R.length
      ·have hltz:(i:Int)<R.length:=by omega
       obtain ⟨ad',e0,z0⟩:=iM HRA2.out i hlt
       injection e0 with e0
       subst e0
       obtain ⟨ri,hri⟩:=nm_ (R[i])
       rw [hri] at z0
       have hltb:=N_ wr _ z0
       rw [dX R i hlt,List.all_cons,hri] at hans
       have HCW:=hid (fun W=>xJ ri W)
       obtain ⟨wi,hwi⟩:=nm_ (qJ ri)
       rw [hwi] at hans HCW
       have HN:=hid hans
       clear hans hri hwi
       cases wi
       ·go_wp2_with (go_at_call 109;refine (HCW.out _).mono ?_;rintro e w' ⟨rfl,rfl⟩)
        go_ret
        have h:=HN.out
        exact ⟨cO (by rw [HX2.out,←h];rfl),HB2.out⟩
       ·go_wp2_with (go_at_call 109;refine (HCW.out _).mono ?_;rintro e w' ⟨rfl,rfl⟩)
        go_roundg gk
        case measure=>omega
        case rel=>exact ⟨i+1,by go_num,by omega,by omega,by have h:=HN.out;simpa using h,rfl⟩
      ·have hgez:(R.length:Int)≤i:=by omega
       rw [List.drop_of_length_le (by omega)] at hans
       have HN:=hid hans
       clear hans
       go_wp2_with fail
       go_ret
       have h:=HN.out
       exact ⟨cO (by rw [HX2.out,←h];rfl),HB2.out⟩
    ·have hcb:(c0 != 2)=true:=kB hc
     have HX2:Hid (oM rs=false):=hid (by rw [HX.out,aW hc];rfl)
     clear hc
     go_wp2_with (go_at_call 87;refine (HC.out _).mono ?_;rintro e w' ⟨rfl,rfl⟩)
     go_ret
     exact ⟨cO HX2.out.symm,HB1.out.alloc HB1.out.size _⟩
end Go.Proofs.YtgcfjkfipkfijaaGreatDoor
