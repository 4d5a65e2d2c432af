/- Part 20 of the proof of rtrees_card; no conditions. -/
import Derived.Test.YtgcfjkfipkfijaaGreatDoorTr01
import Derived.Test.YtgcfjkfipkfijaaGreatDoorTr03
import Derived.Deep.LoopGhost
set_option maxRecDepth 100000
set_option maxHeartbeats 2000000
namespace Go.Proofs.YtgcfjkfipkfijaaGreatDoor
open Go Go.RowKit Go.Lib _root_.Go.Proofs.Tryz
variable {s : ByteArray}
theorem BM (c:Int):c=1∨c=6∧(c == 1)=false∨(c == 1)=false∧(c == 6)=false∧c≠1∧c≠6:=by
 simp only [beq_eq_false_iff_ne,ne_eq]
 omega
theorem Od (h:0<s.size):s.data.toList=s[0]::s.data.toList.tail:=by
 have h':0<s.data.toList.length:=by rw [aJ];exact h
 have e:=mP s h
 cases hl:s.data.toList with
 | nil=>rw [hl] at h';simp at h'
 | cons a t=>rw [hl] at e;rw [e];rfl
theorem uM (h:0<s.size):(!s.toList.isEmpty)=true:=by rw [lF];exact W_ (by omega)
theorem uN (h:¬0<s.size):(!s.toList.isEmpty)=false:=by rw [lF];exact V_ (by omega)
theorem BB {r}:dJ r=6↔r=35:=by
 unfold dJ
 repeat' split
 all_goals omega
theorem Wv {l t c} (h:l=c::t) (hc:c.toNat=35):indexByte l 10≠0:=by
 subst h
 have:(c == 10)=false:=by rw [beq_eq_false_iff_ne];rintro rfl;simp at hc
 have h2:=kL t 10
 simp only [indexByte,this]
 repeat' split
 all_goals first | omega | (simp_all;done) | (simp_all;omega)
theorem wY (g rest at_ v w) (hb:mB w g rest at_ v) (_hs:rest.size≤100000) (ha0:0≤at_) (ha:at_+rest.size≤100000) (ANS) (hA:oS (rest.size+1) rest.data.toList at_=ANS) :
  Calls prog 48 #[.pointer (some ⟨g,0,none⟩)] w fun e w'=>
   e=.returned (.tuple #[])∧∃r a,mB w' g r a v∧Same [g] w w'∧r.data.toList=ANS.1∧a=ANS.2∧r.size≤rest.size∧at_≤a∧a+r.size≤at_+rest.size:=by
 go_enter func48,ntmps48
 go_wp2
 go_loopg [2] (rest.size+1) (fun k _ w'=>∃(r:ByteArray) (a:Int),mB w' g r a v∧Same [g] w w'∧r.size<k∧oS k r.data.toList a=ANS∧r.size≤rest.size∧at_≤a∧a+r.size≤at_+rest.size)
 case atStart=>exact ⟨rest,at_,hb,Same.refl _ _,by omega,hA,by omega,by omega,by omega⟩
 case round=>
  obtain ⟨r,a,hb',hS,hk,hr,hl1,hl2,hl3⟩:=hrel
  have HB:=hid hb'
  have HS:=hid hS
  have HR:=hid hr
  have hc0:wr.cell? ⟨g,0,none⟩=some (.string r):=(aB hb' 0).trans rfl
  obtain ⟨gk,rfl⟩:=pk_ gk 1 (by omega)
  clear hb hb' hS hr hA
  by_cases hp:0<r.size
  ·have hne:=uM hp
   have hz:(0:Int)<r.size:=by omega
   obtain ⟨c,hc⟩:=nm_ (r[0])
   have hcons:=Od hp
   rw [hc] at hcons
   have HCONS:=hid hcons
   obtain ⟨k,hk'⟩:=nm_ (dJ (c.toNat:Int))
   have hlt:=c.toNat_lt
   have HC:Hid (∀W,Calls prog 74 #[.int .i32 c.toNat] W fun e w'=>e=.returned (.int .i64 k)∧W=w'):=fun W=>by rw [←hk'];exact fY _ W (by omega) (by omega)
   have HN:Hid (kJ r.data.toList=if k=1 then 1 else if k=6 then (if indexByte r.data.toList 10<0 then r.size else (indexByte r.data.toList 10).toNat) else 0):=by
    rw [hcons,←hk',←aJ r,hcons];exact rfl
   have H6:Hid (k=6→c.toNat=35):=fun e=>by have:=BB.1 (hk'.trans e);omega
   clear hk' hcons
   rcases BM k with rfl | ⟨rfl,h61⟩ | ⟨h1,h6,h1',h6'⟩
   ·have HN':Hid (kJ r.data.toList=1):=by rw [HN.out];rfl
    go_wp2_with (first | (go_at_call 74;refine (HC.out _).mono ?_;rintro e w' ⟨rfl,rfl⟩) | (go_at_call 50;refine (rV g r a v _ _ HB.out (by omega) (by omega) (by omega) (by omega) (by omega)).mono ?_;rintro e w3 ⟨rfl,hb3,hs3⟩))
    go_roundg gk
    case measure=>omega
    case rel=>
     have h1:=HR.out
     rw [iU (by rw [HN'.out];decide),HN'.out] at h1
     have h2:=mO (r.data.toList.take (Int.toNat 1))
     rw [l_,aJ] at h2
     exact ⟨_,_,hb3,HS.out.then_ hs3,by rw [Lib.ext_size];omega,by rw [mQ];exact h1,by rw [Lib.ext_size];omega,by omega,by rw [Lib.ext_size];omega⟩
   ·have H35:=hid (H6.out rfl)
    obtain ⟨x,hx⟩:=nm_ (indexByte r.data.toList 10)
    have hxb:=kL r.data.toList 10
    rw [aJ,hx] at hxb
    have HIX:Hid (∀W,Calls prog 75 #[.string r,.int .u8 10] W fun e w'=>e=.returned (.int .i64 x)∧W=w'):=fun W=>by
     have:=Tryz.strings_IndexByte r 10 W
     refine this.mono ?_
     rintro e w' ⟨rfl,rfl⟩
     exact ⟨by rw [←hx];rfl,rfl⟩
    have hx0:x≠0:=by
     rw [←hx]
     exact Wv HCONS.out H35.out
    have HN':Hid (kJ r.data.toList=if x<0 then r.size else x.toNat):=by rw [HN.out,hx];rfl
    clear hx
    rcases Int.lt_or_le x 0 with hneg | hpos
    ·have HN2:Hid (kJ r.data.toList=r.size):=by rw [HN'.out,M_ hneg];rfl
     go_wp2_with (first | (go_at_call 74;refine (HC.out _).mono ?_;rintro e w' ⟨rfl,rfl⟩) | (go_at_call 75;refine (HIX.out _).mono ?_;rintro e w' ⟨rfl,rfl⟩) | (go_at_call 50;refine (rV g r a v _ _ HB.out (by omega) (by omega) (by omega) (by omega) (by omega)).mono ?_;rintro e w3 ⟨rfl,hb3,hs3⟩))
     go_roundg gk
     case measure=>omega
     case rel=>
      have h1:=HR.out
      rw [iU (by rw [HN2.out];omega),HN2.out] at h1
      have h2:=mO (r.data.toList.take (r.size:Int).toNat)
      rw [l_,aJ] at h2
      refine ⟨_,_,hb3,HS.out.then_ hs3,by rw [Lib.ext_size];omega,by rw [mQ];exact h1,by rw [Lib.ext_size];omega,by omega,by rw [Lib.ext_size];omega⟩
    ·have HN2:Hid (kJ r.data.toList=x.toNat):=by rw [HN'.out,K_ (by omega)];rfl
     go_wp2_with (first | (go_at_call 74;refine (HC.out _).mono ?_;rintro e w' ⟨rfl,rfl⟩) | (go_at_call 75;refine (HIX.out _).mono ?_;rintro e w' ⟨rfl,rfl⟩) | (go_at_call 50;refine (rV g r a v _ _ HB.out (by omega) (by omega) (by omega) (by omega) (by omega)).mono ?_;rintro e w3 ⟨rfl,hb3,hs3⟩))
     go_roundg gk
     case measure=>omega
     case rel=>
      have h1:=HR.out
      rw [iU (by rw [HN2.out];omega),HN2.out] at h1
      have h2:=mO (r.data.toList.take x.toNat)
      rw [l_,aJ] at h2
      refine ⟨_,_,hb3,HS.out.then_ hs3,by rw [Lib.ext_size];omega,by rw [mQ];exact h1,by rw [Lib.ext_size];omega,by omega,by rw [Lib.ext_size];omega⟩
   ·have HN':Hid (kJ r.data.toList=0):=by rw [HN.out,K_ h1',K_ h6'];rfl
    go_wp2_with (first | (go_at_call 74;refine (HC.out _).mono ?_;rintro e w' ⟨rfl,rfl⟩))
    refine L_ (results_none rfl _ _ _) rfl ?_
    have h1:=HR.out
    rw [iV HN'.out] at h1
    exact ⟨rfl,r,a,HB.out,HS.out,by rw [←h1],by rw [←h1],hl1,hl2,hl3⟩
  ·have hne:=uN hp
   have HN':Hid (kJ r.data.toList=0):=by
    have:r.data.toList=[]:=X_ (by rw [aJ];omega)
    rw [this];rfl
   go_wp2
   go_end0
   have h1:=HR.out
   rw [iV HN'.out] at h1
   exact ⟨rfl,r,a,HB.out,HS.out,by rw [←h1],by rw [←h1],hl1,hl2,hl3⟩
end Go.Proofs.YtgcfjkfipkfijaaGreatDoor
namespace Go.Proofs.YtgcfjkfipkfijaaGreatDoor
open Go Go.RowKit Go.Lib _root_.Go.Proofs.Tryz
theorem Iu (r rs):eN (r::rs)=if Hk r.1 then r.2+eN rs else 0:=rfl
theorem Ey (g s at_ v w) (hb:mB w g s at_ v) (hs:s.size≤1000000) :
  Calls prog 76 #[.pointer (some ⟨g,0,none⟩)] w fun e w'=>e=.returned (.int .i64 (eN (aI s.data.toList)))∧Below w.heap.size w w':=by
 obtain ⟨ANS,hANS⟩:=nm_ (eN (aI s.data.toList))
 rw [hANS]
 have hc0:w.cell? ⟨g,0,none⟩=some (.string s):=(aB hb 0).trans rfl
 have HC0:=hid hc0
 clear hb
 go_enter func76,ntmps76
 go_wp2
 go_loopw [3,4,5] (fun _ _ _ w'=>∃pos,w'=w.iter s pos∧pos≤s.size∧pos+eN (aI (s.data.toList.drop pos))=ANS) (fun _ _ _ w'=>s.size - w'.iterPos w.heap.size)
 case atStart=>exact ⟨0,rfl,by omega,by simpa using hANS⟩
 case round=>
  obtain ⟨pos,rfl,hps,hr⟩:=hrel
  have HR:=hid hr
  clear hr hANS hc0
  by_cases hp:pos<s.size
  ·have hnx:∀ty,(Instr.next (.pointer (some ⟨w.heap.size,0,none⟩)) true ty).run prog (w.iter s pos)=_:=fun ty=>run_next_any w s pos ty hp
   have hwd:=Lib.decode_width_pos s pos hp
   have hft:=jN s pos hp
   have hle:=lE s pos
   obtain ⟨c,hc⟩:=nm_ (dJ ((Utf8.decode s pos).1:Int))
   have HC:Hid (∀w',Calls prog 74 #[.int .i32 (Utf8.decode s pos).1] w' fun e w''=>e=.returned (.int .i64 c)∧w'=w''):=by
    subst hc
    exact fun w'=>fY _ w' (by omega) hle
   have HI:Hid (Hk (Utf8.decode s pos).1=(c == 2 || c == 3)):=zG hc
   have HRR:Hid (eN (aI (s.data.toList.drop pos))=if Hk (Utf8.decode s pos).1 then (Utf8.decode s pos).2+eN (aI (s.data.toList.drop (pos+(Utf8.decode s pos).2))) else 0):=by
    rw [iH s pos hp];exact rfl
   clear hc
   rcases lG c with rfl | rfl | ⟨n2,n3⟩
   ·go_wp2_with (go_at_call 74;refine (HC.out _).mono ?_;rintro e w' ⟨rfl,rfl⟩)
    go_roundw
    case rel=>exact ⟨_,rfl,hft,by have h1:=HR.out;rw [HRR.out,HI.out] at h1;simp at h1;omega⟩
    case measure=>simp;omega
   ·go_wp2_with (go_at_call 74;refine (HC.out _).mono ?_;rintro e w' ⟨rfl,rfl⟩)
    go_roundw
    case rel=>exact ⟨_,rfl,hft,by have h1:=HR.out;rw [HRR.out,HI.out] at h1;simp at h1;omega⟩
    case measure=>simp;omega
   ·go_wp2_with (go_at_call 74;refine (HC.out _).mono ?_;rintro e w' ⟨rfl,rfl⟩)
    go_ret
    refine ⟨pQ ?_,bP _ _ _⟩
    have h1:=HR.out
    rw [HRR.out,HI.out] at h1
    simp only [bne_iff_ne,ne_eq] at n2 n3
    simp [n2,n3] at h1
    omega
  ·have hnx:∀ty,(Instr.next (.pointer (some ⟨w.heap.size,0,none⟩)) true ty).run prog (w.iter s pos)=_:=fun ty=>run_next_end w s pos ty hp
   have hc1:=tJ s pos HC0.out
   go_wp2
   go_ret
   refine ⟨pQ ?_,bP _ _ _⟩
   have h1:=HR.out
   rw [fX s pos hp] at h1
   simp only [eN] at h1
   omega
theorem cU {B k w W} (h:Below B w W) (hk:B≤k) (a b c d):Below B w ((((W.setCell ⟨k,0,none⟩ a).setCell ⟨k,1,none⟩ b).setCell ⟨k,2,none⟩ c).setCell ⟨k,3,none⟩ d):=
 (((h.setCell hk a).setCell hk b).setCell hk c).setCell hk d
theorem Lu (l sep):(cut l sep).1.length≤l.length:=by
 unfold cut
 split
 ·simp;omega
 ·simp
theorem Oe (g s at_ v w) (hb:mB w g s at_ v) (hs:s.size≤1000000) (hp:0<s.size) (hT:cF w) :
  Calls prog 79 #[.pointer (some ⟨g,0,none⟩)] w fun e w'=>
   (∃t:bQ × Int × Int,t=mN s.data.toList∧e=.returned (.tuple #[.agg #[.int .i64 t.1.kind,.string t.1.text,.int .i64 t.1.n,.int .i64 t.1.at_],.int .i64 t.2.1,.int .i64 t.2.2]))∧Below w.heap.size w w':=by
 have hc0:w.cell? ⟨g,0,none⟩=some (.string s):=(aB hb 0).trans rfl
 have hz:(1:Int)≤s.size:=by omega
 have hg:=aC hb
 obtain ⟨m,hm⟩:=hT.len
 have hsz:=hT.size
 have HM:=hid hm
 obtain ⟨c1,hc1⟩:=nm_ (Lib.cut (s.data.toList.drop 1) [10])
 obtain ⟨c2,hc2⟩:=nm_ (Lib.cut c1.1 [34])
 have H1:Hid (∀W,W.cell? ⟨2,0,none⟩=some (.int .i64 m)→Calls prog 107 #[.string (s.extract 1 s.size),.string ⟨#[10]⟩] W fun e w'=>e=.returned (.tuple #[.string ⟨c1.1.toArray⟩,.string ⟨c1.2.1.toArray⟩,.bool c1.2.2])∧∃n,w'=W.drewN n):=fun W hW=>by
  have:=Tryz.strings_Cut (s.extract 1 s.size) ⟨#[10]⟩ m W (by rw [Lib.ext_size];omega) hW
  rw [mQ] at this
  rw [←hc1]
  exact this
 obtain ⟨u,hu⟩:∃u:ByteArray,u=⟨c1.1.toArray⟩:=⟨_,rfl⟩
 have hu':u.data.toList=c1.1:=by rw [hu]
 have hul:u.size≤s.size:=by
  rw [←aJ,hu',←hc1,←aJ s]
  have:=Lu (s.data.toList.drop 1) [10]
  simp at this ⊢
  omega
 obtain ⟨t,ht⟩:∃t:ByteArray,t=⟨c2.1.toArray⟩:=⟨_,rfl⟩
 have ht':t.data.toList=c2.1:=by rw [ht]
 have htl:t.size≤s.size:=by
  rw [←aJ,ht',←hc2]
  have:=Lu c1.1 [34]
  rw [←hu',aJ] at this
  rw [←hu']
  omega
 have H2:Hid (∀W,W.cell? ⟨2,0,none⟩=some (.int .i64 m)→Calls prog 107 #[.string u,.string ⟨#[34]⟩] W fun e w'=>e=.returned (.tuple #[.string t,.string ⟨c2.2.1.toArray⟩,.bool c2.2.2])∧∃n,w'=W.drewN n):=fun W hW=>by
  have:=Tryz.strings_Cut u ⟨#[34]⟩ m W (by omega) hW
  rw [hu'] at this
  rw [ht,←hc2]
  exact this
 rw [←hu] at H1
 have HX:Hid (mN s.data.toList=if c2.2.2=false then (cB,0,11) else if (aI t.data.toList).any (fun r=>decide (r.1<32)) then (cB,0,11) else if 20<(aI t.data.toList).length then (cB,0,2) else (⟨3,t,0,0⟩,(t.size:Int)+2,0)):=by
  unfold mN
  rw [hc1,hc2,←aJ t,ht',ht]
  exact rfl
 have HM1:Hid (∀n,((w.alloc (.cells #[.int .i64 0,.string ⟨#[]⟩,.int .i64 0,.int .i64 0] 60)).drewN n).cell? ⟨2,0,none⟩=some (.int .i64 m)):=fun n=>
  (((J_ _ _).alloc le_ _).cell (N_ w _ HM.out)).trans HM.out
 clear hu hu' ht hc1 hc2 hm hT HM1
 have HRC:Hid (∀W,Calls prog 77 #[.string t] W fun e w'=>e=.returned (.int .i64 (aI t.data.toList).length)∧∃pos,w'=W.iter t pos):=fun W=>by
  have:=Tryz.utf8_RuneCountInString t W (by omega)
  rw [gP] at this
  exact this
 obtain ⟨AN,hAN⟩:=nm_ ((aI t.data.toList).any (fun r=>decide (r.1<32)))
 rw [hAN] at HX
 have HAN:=hid hAN
 clear hAN
 go_enter func79,ntmps79
 go_wp2_with fail
 obtain ⟨w0,hw0⟩:=nm_ (w.alloc (.cells #[.int .i64 0,.string ⟨#[]⟩,.int .i64 0,.int .i64 0] 60))
 have hk0:w0.heap[w.heap.size]? = some (.cells #[.int .i64 0,.string ⟨#[]⟩,.int .i64 0,.int .i64 0] 60 (0,0)):=by rw [←hw0];exact I_ _ _
 have hb0:Below w.heap.size w w0:=by rw [←hw0];exact (J_ _ _).alloc le_ _
 have hm0:=((hb0.cell (N_ w _ HM.out)).trans HM.out)
 have HK0:=hid hk0
 have HB0:=hid hb0
 rw [hw0]
 clear hw0 hb0 hc0
 refine (H1.out _ hm0).mono ?_
 rintro e w1 ⟨rfl,n1,rfl⟩
 go_wp2_with fail
 refine (H2.out (w0.drewN n1) hm0).mono ?_
 rintro e w2 ⟨rfl,n2,hw2⟩
 have hk2:w2.heap[w.heap.size]? = some (.cells #[.int .i64 0,.string ⟨#[]⟩,.int .i64 0,.int .i64 0] 60 (0,0)):=by rw [hw2];exact HK0.out
 have hb2:Below w.heap.size w w2:=by rw [hw2];exact ⟨HB0.out.os,HB0.out.tape,HB0.out.output,HB0.out.size,HB0.out.block⟩
 clear hm0 hk0 hw2 HK0 HB0
 cases hok:c2.2.2
 ·rw [hok] at HX H2
  have q0:=(aB hk2 0).trans rfl
  have q1:=(aB hk2 1).trans rfl
  have q2:=(aB hk2 2).trans rfl
  have q3:=(aB hk2 3).trans rfl
  have f0:=aD hk2 0
  have f1:=aD hk2 1
  have f2:=aD hk2 2
  have f3:=aD hk2 3
  have HB2:=hid hb2
  clear hk2 hb2
  go_wp2_with fail
  refine L_ (v:=.tuple #[.agg #[.int .i64 0,.string ⟨#[]⟩,.int .i64 0,.int .i64 0],.int .i64 0,.int .i64 11]) (by simp [results,results79,go_sem, *]) rfl ⟨⟨(cB,0,11),by rw [HX.out];rfl,rfl⟩,?_⟩
  exact cU HB2.out le_ _ _ _ _
 ·rw [hok] at HX H2
  have HK2:=hid hk2
  have HB2:=hid hb2
  clear hk2 hb2
  go_wp2_with fail
  go_loopw [12] (fun _ w'=>∃pos,w'=w2.iter t pos∧(aI (t.data.toList.drop pos)).any (fun r=>decide (r.1<32))=AN) (fun _ w'=>t.size - w'.iterPos w2.heap.size)
  case atStart=>exact ⟨0,rfl,by simpa using HAN.out⟩
  case round=>
   obtain ⟨pos,rfl,hr⟩:=hrel
   have HR:=hid hr
   clear hr
   by_cases hp':pos<t.size
   ·have hnx:∀ty,(Instr.next (.pointer (some ⟨w2.heap.size,0,none⟩)) true ty).run prog (w2.iter t pos)=_:=fun ty=>run_next_any w2 t pos ty hp'
    have hwd:=Lib.decode_width_pos t pos hp'
    have HRR:Hid ((aI (t.data.toList.drop pos)).any (fun r=>decide (r.1<32))=(decide ((Utf8.decode t pos).1<32) || (aI (t.data.toList.drop (pos+(Utf8.decode t pos).2))).any (fun r=>decide (r.1<32)))):=by
     rw [iH t pos hp'];exact rfl
    rcases Nat.lt_or_ge (Utf8.decode t pos).1 32 with hlt | hge
    ·have hltz:((Utf8.decode t pos).1:Int)<32:=by omega
     have HD:Hid (decide ((Utf8.decode t pos).1<32)=true):=W_ hlt
     have hk3:∀p,(w2.iter t p).heap[w.heap.size]? = _:=fun p=>((bP w2 t p).block _ (aC HK2.out)).trans HK2.out
     have q0:=fun p=>(aB (hk3 p) 0).trans rfl
     have q1:=fun p=>(aB (hk3 p) 1).trans rfl
     have q2:=fun p=>(aB (hk3 p) 2).trans rfl
     have q3:=fun p=>(aB (hk3 p) 3).trans rfl
     have f0:=fun p=>aD (hk3 p) 0
     have f1:=fun p=>aD (hk3 p) 1
     have f2:=fun p=>aD (hk3 p) 2
     have f3:=fun p=>aD (hk3 p) 3
     clear hlt hk3
     go_wp2_with fail
     refine L_ (v:=.tuple #[.agg #[.int .i64 0,.string ⟨#[]⟩,.int .i64 0,.int .i64 0],.int .i64 0,.int .i64 11]) (by simp [results,results79,go_sem, *]) rfl ⟨⟨(cB,0,11),?_,rfl⟩,?_⟩
     ·have h1:=HR.out
      rw [HRR.out,HD.out,Bool.true_or] at h1
      rw [HX.out,←h1];rfl
     ·exact cU (HB2.out.trans ((bP w2 t _).mono HB2.out.size)) le_ _ _ _ _
    ·have hgez:(32:Int)≤((Utf8.decode t pos).1:Int):=by omega
     have HD:Hid (decide ((Utf8.decode t pos).1<32)=false):=V_ (by omega)
     clear hge
     go_wp2_with fail
     go_roundw
     case rel=>exact ⟨_,rfl,by have h1:=HR.out;rw [HRR.out,HD.out,Bool.false_or] at h1;exact h1⟩
     case measure=>simp;omega
   ·have hnx:∀ty,(Instr.next (.pointer (some ⟨w2.heap.size,0,none⟩)) true ty).run prog (w2.iter t pos)=_:=fun ty=>run_next_end w2 t pos ty hp'
    have HE:Hid (AN=false):=by have h1:=HR.out;rw [fX t pos hp'] at h1;exact h1.symm
    go_wp2_with fail
    refine (HRC.out _).mono ?_
    rintro e w3 ⟨rfl,pos',rfl⟩
    obtain ⟨w4,hw4⟩:=nm_ ((w2.iter t pos).iter t pos')
    have hb4:Below w.heap.size w w4:=by
     have h1:=HB2.out.trans ((bP w2 t pos).mono HB2.out.size)
     rw [←hw4]
     exact h1.trans ((bP _ t pos').mono h1.size)
    have hk4:w4.heap[w.heap.size]? = some (.cells #[.int .i64 0,.string ⟨#[]⟩,.int .i64 0,.int .i64 0] 60 (0,0)):=by
     have h1:=((bP w2 t pos).block _ (aC HK2.out)).trans HK2.out
     rw [←hw4]
     exact ((bP _ t pos').block _ (aC h1)).trans h1
    rw [hw4]
    have q0:=(aB hk4 0).trans rfl
    have q1:=(aB hk4 1).trans rfl
    have q2:=(aB hk4 2).trans rfl
    have q3:=(aB hk4 3).trans rfl
    have f0:=aD hk4 0
    have f1:=aD hk4 1
    have f2:=aD hk4 2
    have f3:=aD hk4 3
    have HB4:=hid hb4
    clear hw4 hb4 hk4 hnx
    obtain ⟨N,hN⟩:=nm_ ((aI t.data.toList).length)
    rw [hN] at HX ⊢
    clear hN
    by_cases hN:20<N
    ·have hNz:(20:Int)<N:=by omega
     have HN:=hid hN
     clear hN
     go_wp2_with fail
     refine L_ (v:=.tuple #[.agg #[.int .i64 0,.string ⟨#[]⟩,.int .i64 0,.int .i64 0],.int .i64 0,.int .i64 2]) (by simp [results,results79,go_sem, *]) rfl ⟨⟨(cB,0,2),?_,rfl⟩,cU HB4.out le_ _ _ _ _⟩
     rw [HX.out,HE.out,M_ HN.out];rfl
    ·have hNz:(N:Int)≤20:=by omega
     have HN:=hid hN
     clear hN
     have hts:(t.size:Int)≤1000000:=by omega
     go_wp2_with fail
     refine L_ (v:=.tuple #[.agg #[.int .i64 3,.string t,.int .i64 0,.int .i64 0],.int .i64 (t.size+2),.int .i64 0]) (by simp [results,results79,go_sem, *]) rfl ⟨⟨(⟨3,t,0,0⟩,(t.size:Int)+2,0),?_,rfl⟩,cU HB4.out le_ _ _ _ _⟩
     rw [HX.out,HE.out,K_ HN.out];rfl
end Go.Proofs.YtgcfjkfipkfijaaGreatDoor
namespace Go.Proofs.YtgcfjkfipkfijaaGreatDoor
open Go Go.RowKit Go.Lib _root_.Go.Proofs.Tryz
variable {s : ByteArray}
theorem tU {w w1 w2:World} {K g:Nat} {o o':Obj} (hb:Below w.heap.size w w1) (hk:w1.heap[K]? = some o) (hg:w1.heap[g]? = some o') (h:Below w1.heap.size w1 w2) :
  Below w.heap.size w w2∧w2.heap[K]? = some o∧w2.heap[g]? = some o':=
 ⟨hb.trans (h.mono hb.size),(h.block _ (aC hk)).trans hk,(h.block _ (aC hg)).trans hg⟩
theorem sQ (s:ByteArray) (n:Nat):s.extract 0 n=⟨(s.data.toList.take n).toArray⟩:=by
 apply ByteArray.ext
 apply Array.toList_inj.1
 simp
theorem Ez:∀(n:Nat) (l:List UInt8),l.length≤n→eN (aI l)≤l.length:=by
 intro n
 induction n with
 | zero=>intro l h;rw [X_ (by omega:l.length=0)];exact H_ _
 | succ n ih=>
  intro l h
  by_cases hl:l=[]
  ·subst hl;exact H_ _
  ·have h1:0<l.length:=F_ hl
   have hw:=decodeL_width l
   have hle:=decodeL_le l hl
   have:=ih (l.drop (decodeL l).2) (by rw [Q_];omega)
   rw [Q_] at this
   rw [bD l hl,Iu]
   split <;> omega
theorem AD (h:dJ (decodeL s.data.toList).1=2):eX s.data.toList =
  if 12<(aI (s.data.toList.take (eN (aI s.data.toList)))).length then (cB,0,2) else (⟨1,s.extract 0 (eN (aI s.data.toList)),0,0⟩,(eN (aI s.data.toList):Int),0):=by
 unfold eX;simp only [h,sQ,if_true]
theorem AE (h:dJ (decodeL s.data.toList).1=3):eX s.data.toList =
  if (qG (s.extract 0 (eN (aI s.data.toList)))).2 then (⟨2,s.extract 0 (eN (aI s.data.toList)),(qG (s.extract 0 (eN (aI s.data.toList)))).1,0⟩,(eN (aI s.data.toList):Int),0) else (cB,0,11):=by
 unfold eX;simp only [h,sQ];rw [K_ (by decide),M_ trivial]
theorem AF (h:dJ (decodeL s.data.toList).1=5):eX s.data.toList=mN s.data.toList:=by
 unfold eX;simp only [h];rw [K_ (by decide),K_ (by decide),M_ trivial]
theorem AG (h:dJ (decodeL s.data.toList).1≠2∧dJ (decodeL s.data.toList).1≠3∧dJ (decodeL s.data.toList).1≠5∧dJ (decodeL s.data.toList).1≠4):eX s.data.toList=(cB,0,11):=by
 unfold eX;simp only [h.1,h.2.1,h.2.2.1,h.2.2.2,if_false]
theorem AH (h:dJ (decodeL s.data.toList).1=4):eX s.data.toList =
  (⟨4,s.extract 0 (if 1<s.size∧s.data.toList.getD 1 0=61∧0≤indexByte [60,62,61,33,58] (s.data.toList.getD 0 0) then 2 else (decodeL s.data.toList).2),0,0⟩,((if 1<s.size∧s.data.toList.getD 1 0=61∧0≤indexByte [60,62,61,33,58] (s.data.toList.getD 0 0) then 2 else (decodeL s.data.toList).2:Nat):Int),0):=by
 unfold eX;simp only [h,sQ,aJ];rw [K_ (by decide),K_ (by decide),K_ (by decide),M_ trivial]
theorem BC (c:Int):c=2∨c=3∨c=5∨c=4∨((c == 2)=false∧(c == 3)=false∧(c == 5)=false∧(c == 4)=false∧c≠2∧c≠3∧c≠5∧c≠4):=by
 simp only [beq_eq_false_iff_ne,ne_eq]
 omega
theorem lR (s) (h:0<s.size):Lib.decodeGo s=decodeL s.data.toList:=by
 have:=decodeL_drop s 0
 rw [List.drop_zero] at this
 unfold Lib.decodeGo
 rw [K_ (by omega),this]
theorem Yw (g s at_ v w) (hb:mB w g s at_ v) (hs:s.size≤1000000) (hp:0<s.size) (hT:cF w) (k) (hk:dJ (decodeL s.data.toList).1=k) (hk2:k=2) :
  Calls prog 49 #[.pointer (some ⟨g,0,none⟩)] w fun e w'=>
   (∃t:bQ × Int × Int,t=eX s.data.toList∧e=.returned (.tuple #[.agg #[.int .i64 t.1.kind,.string t.1.text,.int .i64 t.1.n,.int .i64 t.1.at_],.int .i64 t.2.1,.int .i64 t.2.2]))∧Below w.heap.size w w':=by
 have hc0:w.cell? ⟨g,0,none⟩=some (.string s):=(aB hb 0).trans rfl
 have hg:=aC hb
 have HB:=hid hb
 have HT:=hid hT
 obtain ⟨r,hr⟩:=nm_ ((decodeL s.data.toList).1)
 obtain ⟨wd,hw⟩:=nm_ ((decodeL s.data.toList).2)
 have HD:Hid (∀W,cF W→Calls prog 73 #[.string s] W fun e w'=>e=.returned (.tuple #[.int .i32 r,.int .i64 wd])∧Below W.heap.size W w'):=fun W hW=>by
  have:=Tryz.utf8_DecodeRuneInString s W hW.utf
  rw [lR s hp,hr,hw] at this
  exact this
 have hwd:=decodeL_le s.data.toList (by intro e;have:=aJ s;rw [e] at this;simp at this;omega)
 have hwd1:=decodeL_width s.data.toList
 rw [aJ,hw] at hwd
 rw [hw] at hwd1
 have hr2:=decodeL_rune s.data.toList
 rw [hr] at hk hr2
 have HC:Hid (∀W,Calls prog 74 #[.int .i32 r] W fun e w'=>e=.returned (.int .i64 k)∧W=w'):=fun W=>by rw [←hk];exact fY _ W (by omega) (by omega)
 have HTF:=hid (AD (s:=s) (by rw [hr,hk,hk2]))
 clear hb hT hr hw hk
 subst hk2
 obtain ⟨n,hn⟩:=nm_ (eN (aI s.data.toList))
 have hnl:=Ez _ s.data.toList le_
 have HW:Hid (∀W,mB W g s at_ v→Calls prog 76 #[.pointer (some ⟨g,0,none⟩)] W fun e w'=>e=.returned (.int .i64 n)∧Below W.heap.size W w'):=fun W hW=>by
  rw [←hn];exact Ey g s at_ v W hW hs
 rw [aJ,hn] at hnl
 rw [hn] at HTF
 have hnz:(n:Int)≤s.size:=by omega
 clear hn
 have HR:Hid (∀W,Calls prog 77 #[.string (s.extract 0 n)] W fun e w'=>e=.returned (.int .i64 (aI (s.data.toList.take n)).length)∧Below W.heap.size W w'):=fun W=>by
  have h1:=Tryz.utf8_RuneCountInString (s.extract 0 n) W (by simp;omega)
  have h2:runeCount (s.extract 0 n)=(aI (s.data.toList.take n)).length:=by rw [gP,sQ]
  rw [h2] at h1
  refine h1.mono ?_
  rintro e w' ⟨he,pos,rfl⟩
  exact ⟨he,bP _ _ _⟩
 obtain ⟨N,hN⟩:=nm_ ((aI (s.data.toList.take n)).length)
 rw [hN] at HR HTF
 clear hN
 go_enter func49,ntmps49
 go_wp2_with fail
 obtain ⟨w0,hw0⟩:=nm_ (w.alloc (.cells #[.int .i64 0,.string ⟨#[]⟩,.int .i64 0,.int .i64 0] 60))
 have hk0:w0.heap[w.heap.size]? = some (.cells #[.int .i64 0,.string ⟨#[]⟩,.int .i64 0,.int .i64 0] 60 (0,0)):=by rw [←hw0];exact I_ _ _
 have hb0:Below w.heap.size w w0:=by rw [←hw0];exact (J_ _ _).alloc le_ _
 have hg0:=bp_ hb0 HB.out
 have HS0:=hid (T_ hb0 (T_ hk0 hg0))
 rw [hw0]
 clear hw0 hb0 hk0 hg0 hc0
 refine (HD.out _ (HT.out.below HS0.out.1)).mono ?_
 rintro e w1 ⟨rfl,hb1⟩
 have HS1:=hid (tU HS0.out.1 HS0.out.2.1 HS0.out.2.2 hb1)
 have c1:=(aB HS1.out.2.2 0).trans rfl
 clear hb1 HS0
 go_wp2_with fail
 refine (HC.out _).mono ?_
 rintro e w' ⟨rfl,rfl⟩
 go_wp2_with fail
 refine (HW.out _ HS1.out.2.2).mono ?_
 rintro e w2 ⟨rfl,hb2⟩
 have HS2:=hid (tU HS1.out.1 HS1.out.2.1 HS1.out.2.2 hb2)
 have c2:=(aB HS2.out.2.2 0).trans rfl
 clear hb2 HS1 c1
 go_wp2_with fail
 refine (HR.out _).mono ?_
 rintro e w3 ⟨rfl,hb3⟩
 have HS3:=hid (tU HS2.out.1 HS2.out.2.1 HS2.out.2.2 hb3)
 have c3:=(aB HS3.out.2.2 0).trans rfl
 clear hb3 HS2 c2
 have q0:=(aB HS3.out.2.1 0).trans rfl
 have q1:=(aB HS3.out.2.1 1).trans rfl
 have q2:=(aB HS3.out.2.1 2).trans rfl
 have q3:=(aB HS3.out.2.1 3).trans rfl
 have f0:=aD HS3.out.2.1 0
 have f1:=aD HS3.out.2.1 1
 have f2:=aD HS3.out.2.1 2
 have f3:=aD HS3.out.2.1 3
 by_cases h12:12<N
 ·have hz:(12:Int)<N:=by omega
  have H12:=hid h12
  clear h12
  go_wp2_with fail
  refine L_ (v:=.tuple #[.agg #[.int .i64 0,.string ⟨#[]⟩,.int .i64 0,.int .i64 0],.int .i64 0,.int .i64 2]) (by simp [results,results49,go_sem, *]) rfl ⟨⟨(cB,0,2),?_,rfl⟩,cU HS3.out.1 le_ _ _ _ _⟩
  rw [HTF.out];simp [H12.out]
 ·have hz:(N:Int)≤12:=by omega
  have H12:=hid h12
  clear h12
  go_wp2_with fail
  refine L_ (v:=.tuple #[.agg #[.int .i64 1,.string (s.extract 0 n),.int .i64 0,.int .i64 0],.int .i64 n,.int .i64 0]) (by simp [results,results49,go_sem, *]) rfl ⟨⟨(⟨1,s.extract 0 n,0,0⟩,n,0),?_,rfl⟩,cU HS3.out.1 le_ _ _ _ _⟩
  rw [HTF.out];simp [H12.out]
theorem Yx (g s at_ v w) (hb:mB w g s at_ v) (hs:s.size≤1000000) (hp:0<s.size) (hT:cF w) (k) (hk:dJ (decodeL s.data.toList).1=k) (hk2:k=3) :
  Calls prog 49 #[.pointer (some ⟨g,0,none⟩)] w fun e w'=>
   (∃t:bQ × Int × Int,t=eX s.data.toList∧e=.returned (.tuple #[.agg #[.int .i64 t.1.kind,.string t.1.text,.int .i64 t.1.n,.int .i64 t.1.at_],.int .i64 t.2.1,.int .i64 t.2.2]))∧Below w.heap.size w w':=by
 have hc0:w.cell? ⟨g,0,none⟩=some (.string s):=(aB hb 0).trans rfl
 have hg:=aC hb
 have HB:=hid hb
 have HT:=hid hT
 obtain ⟨r,hr⟩:=nm_ ((decodeL s.data.toList).1)
 obtain ⟨wd,hw⟩:=nm_ ((decodeL s.data.toList).2)
 have HD:Hid (∀W,cF W→Calls prog 73 #[.string s] W fun e w'=>e=.returned (.tuple #[.int .i32 r,.int .i64 wd])∧Below W.heap.size W w'):=fun W hW=>by
  have:=Tryz.utf8_DecodeRuneInString s W hW.utf
  rw [lR s hp,hr,hw] at this
  exact this
 have hwd:=decodeL_le s.data.toList (by intro e;have:=aJ s;rw [e] at this;simp at this;omega)
 have hwd1:=decodeL_width s.data.toList
 rw [aJ,hw] at hwd
 rw [hw] at hwd1
 have hr2:=decodeL_rune s.data.toList
 rw [hr] at hk hr2
 have HC:Hid (∀W,Calls prog 74 #[.int .i32 r] W fun e w'=>e=.returned (.int .i64 k)∧W=w'):=fun W=>by rw [←hk];exact fY _ W (by omega) (by omega)
 have HTF:=hid (AE (s:=s) (by rw [hr,hk,hk2]))
 clear hb hT hr hw hk
 subst hk2
 obtain ⟨n,hn⟩:=nm_ (eN (aI s.data.toList))
 have hnl:=Ez _ s.data.toList le_
 have HW:Hid (∀W,mB W g s at_ v→Calls prog 76 #[.pointer (some ⟨g,0,none⟩)] W fun e w'=>e=.returned (.int .i64 n)∧Below W.heap.size W w'):=fun W hW=>by
  rw [←hn];exact Ey g s at_ v W hW hs
 rw [aJ,hn] at hnl
 rw [hn] at HTF
 have hnz:(n:Int)≤s.size:=by omega
 clear hn
 obtain ⟨x,hx⟩:=nm_ (qG (s.extract 0 n))
 have HR:Hid (∀W,Calls prog 78 #[.string (s.extract 0 n)] W fun e w'=>e=.returned (.tuple #[.int .i64 x.1,.bool x.2])∧Below W.heap.size W w'):=fun W=>by
  rw [←hx];exact Hp _ W
 rw [hx] at HTF
 clear hx
 go_enter func49,ntmps49
 go_wp2_with fail
 obtain ⟨w0,hw0⟩:=nm_ (w.alloc (.cells #[.int .i64 0,.string ⟨#[]⟩,.int .i64 0,.int .i64 0] 60))
 have hk0:w0.heap[w.heap.size]? = some (.cells #[.int .i64 0,.string ⟨#[]⟩,.int .i64 0,.int .i64 0] 60 (0,0)):=by rw [←hw0];exact I_ _ _
 have hb0:Below w.heap.size w w0:=by rw [←hw0];exact (J_ _ _).alloc le_ _
 have hg0:=bp_ hb0 HB.out
 have HS0:=hid (T_ hb0 (T_ hk0 hg0))
 rw [hw0]
 clear hw0 hb0 hk0 hg0 hc0
 refine (HD.out _ (HT.out.below HS0.out.1)).mono ?_
 rintro e w1 ⟨rfl,hb1⟩
 have HS1:=hid (tU HS0.out.1 HS0.out.2.1 HS0.out.2.2 hb1)
 have c1:=(aB HS1.out.2.2 0).trans rfl
 clear hb1 HS0
 go_wp2_with fail
 refine (HC.out _).mono ?_
 rintro e w' ⟨rfl,rfl⟩
 go_wp2_with fail
 refine (HW.out _ HS1.out.2.2).mono ?_
 rintro e w2 ⟨rfl,hb2⟩
 have HS2:=hid (tU HS1.out.1 HS1.out.2.1 HS1.out.2.2 hb2)
 have c2:=(aB HS2.out.2.2 0).trans rfl
 clear hb2 HS1 c1
 go_wp2_with fail
 refine (HR.out _).mono ?_
 rintro e w3 ⟨rfl,hb3⟩
 have HS3:=hid (tU HS2.out.1 HS2.out.2.1 HS2.out.2.2 hb3)
 have c3:=(aB HS3.out.2.2 0).trans rfl
 clear hb3 HS2 c2
 have q0:=(aB HS3.out.2.1 0).trans rfl
 have q1:=(aB HS3.out.2.1 1).trans rfl
 have q2:=(aB HS3.out.2.1 2).trans rfl
 have q3:=(aB HS3.out.2.1 3).trans rfl
 have f0:=aD HS3.out.2.1 0
 have f1:=aD HS3.out.2.1 1
 have f2:=aD HS3.out.2.1 2
 have f3:=aD HS3.out.2.1 3
 obtain ⟨x1,x2⟩:=x
 cases x2
 ·go_wp2_with fail
  refine L_ (v:=.tuple #[.agg #[.int .i64 0,.string ⟨#[]⟩,.int .i64 0,.int .i64 0],.int .i64 0,.int .i64 11]) (by simp [results,results49,go_sem, *]) rfl ⟨⟨(cB,0,11),?_,rfl⟩,cU HS3.out.1 le_ _ _ _ _⟩
  rw [HTF.out];simp
 ·go_wp2_with fail
  refine L_ (v:=.tuple #[.agg #[.int .i64 2,.string (s.extract 0 n),.int .i64 x1,.int .i64 0],.int .i64 n,.int .i64 0]) (by simp [results,results49,go_sem, *]) rfl ⟨⟨(⟨2,s.extract 0 n,x1,0⟩,n,0),?_,rfl⟩,cU HS3.out.1 le_ _ _ _ _⟩
  rw [HTF.out];simp
theorem Yy (g s at_ v w) (hb:mB w g s at_ v) (hs:s.size≤1000000) (hp:0<s.size) (hT:cF w) (k) (hk:dJ (decodeL s.data.toList).1=k) (hk2:k=5) :
  Calls prog 49 #[.pointer (some ⟨g,0,none⟩)] w fun e w'=>
   (∃t:bQ × Int × Int,t=eX s.data.toList∧e=.returned (.tuple #[.agg #[.int .i64 t.1.kind,.string t.1.text,.int .i64 t.1.n,.int .i64 t.1.at_],.int .i64 t.2.1,.int .i64 t.2.2]))∧Below w.heap.size w w':=by
 have hc0:w.cell? ⟨g,0,none⟩=some (.string s):=(aB hb 0).trans rfl
 have hg:=aC hb
 have HB:=hid hb
 have HT:=hid hT
 obtain ⟨r,hr⟩:=nm_ ((decodeL s.data.toList).1)
 obtain ⟨wd,hw⟩:=nm_ ((decodeL s.data.toList).2)
 have HD:Hid (∀W,cF W→Calls prog 73 #[.string s] W fun e w'=>e=.returned (.tuple #[.int .i32 r,.int .i64 wd])∧Below W.heap.size W w'):=fun W hW=>by
  have:=Tryz.utf8_DecodeRuneInString s W hW.utf
  rw [lR s hp,hr,hw] at this
  exact this
 have hwd:=decodeL_le s.data.toList (by intro e;have:=aJ s;rw [e] at this;simp at this;omega)
 have hwd1:=decodeL_width s.data.toList
 rw [aJ,hw] at hwd
 rw [hw] at hwd1
 have hr2:=decodeL_rune s.data.toList
 rw [hr] at hk hr2
 have HC:Hid (∀W,Calls prog 74 #[.int .i32 r] W fun e w'=>e=.returned (.int .i64 k)∧W=w'):=fun W=>by rw [←hk];exact fY _ W (by omega) (by omega)
 have HTF:=hid (AF (s:=s) (by rw [hr,hk,hk2]))
 clear hb hT hr hw hk
 subst hk2
 go_enter func49,ntmps49
 go_wp2_with fail
 obtain ⟨w0,hw0⟩:=nm_ (w.alloc (.cells #[.int .i64 0,.string ⟨#[]⟩,.int .i64 0,.int .i64 0] 60))
 have hk0:w0.heap[w.heap.size]? = some (.cells #[.int .i64 0,.string ⟨#[]⟩,.int .i64 0,.int .i64 0] 60 (0,0)):=by rw [←hw0];exact I_ _ _
 have hb0:Below w.heap.size w w0:=by rw [←hw0];exact (J_ _ _).alloc le_ _
 have hg0:=bp_ hb0 HB.out
 have HS0:=hid (T_ hb0 (T_ hk0 hg0))
 rw [hw0]
 clear hw0 hb0 hk0 hg0 hc0
 refine (HD.out _ (HT.out.below HS0.out.1)).mono ?_
 rintro e w1 ⟨rfl,hb1⟩
 have HS1:=hid (tU HS0.out.1 HS0.out.2.1 HS0.out.2.2 hb1)
 have c1:=(aB HS1.out.2.2 0).trans rfl
 clear hb1 HS0
 go_wp2_with fail
 refine (HC.out _).mono ?_
 rintro e w' ⟨rfl,rfl⟩
 go_wp2_with fail
 refine (Oe g s at_ v _ HS1.out.2.2 hs hp (HT.out.below HS1.out.1)).mono ?_
 rintro e w2 ⟨⟨⟨⟨t1,t2,t3,t4⟩,t5,t6⟩,ht,rfl⟩,hb2⟩
 have HTX:=hid ht
 have HS3:=hid (tU HS1.out.1 HS1.out.2.1 HS1.out.2.2 hb2)
 clear hb2 HS1 c1 ht
 have q0:=(aB HS3.out.2.1 0).trans rfl
 have q1:=(aB HS3.out.2.1 1).trans rfl
 have q2:=(aB HS3.out.2.1 2).trans rfl
 have q3:=(aB HS3.out.2.1 3).trans rfl
 have f0:=aD HS3.out.2.1 0
 have f1:=aD HS3.out.2.1 1
 have f2:=aD HS3.out.2.1 2
 have f3:=aD HS3.out.2.1 3
 go_wp2_with fail
 refine L_ (v:=.tuple #[.agg #[.int .i64 t1,.string t2,.int .i64 t3,.int .i64 t4],.int .i64 t5,.int .i64 t6]) (by simp [results,results49,go_sem, *]) rfl ⟨⟨(⟨t1,t2,t3,t4⟩,t5,t6),?_,rfl⟩,cU HS3.out.1 le_ _ _ _ _⟩
 rw [HTF.out,HTX.out]
theorem Yz (g s at_ v w) (hb:mB w g s at_ v) (hs:s.size≤1000000) (hp:0<s.size) (hT:cF w) (k) (hk:dJ (decodeL s.data.toList).1=k) (hk2:(k == 2)=false∧(k == 3)=false∧(k == 5)=false∧(k == 4)=false∧k≠2∧k≠3∧k≠5∧k≠4) :
  Calls prog 49 #[.pointer (some ⟨g,0,none⟩)] w fun e w'=>
   (∃t:bQ × Int × Int,t=eX s.data.toList∧e=.returned (.tuple #[.agg #[.int .i64 t.1.kind,.string t.1.text,.int .i64 t.1.n,.int .i64 t.1.at_],.int .i64 t.2.1,.int .i64 t.2.2]))∧Below w.heap.size w w':=by
 have hc0:w.cell? ⟨g,0,none⟩=some (.string s):=(aB hb 0).trans rfl
 have hg:=aC hb
 have HB:=hid hb
 have HT:=hid hT
 obtain ⟨r,hr⟩:=nm_ ((decodeL s.data.toList).1)
 obtain ⟨wd,hw⟩:=nm_ ((decodeL s.data.toList).2)
 have HD:Hid (∀W,cF W→Calls prog 73 #[.string s] W fun e w'=>e=.returned (.tuple #[.int .i32 r,.int .i64 wd])∧Below W.heap.size W w'):=fun W hW=>by
  have:=Tryz.utf8_DecodeRuneInString s W hW.utf
  rw [lR s hp,hr,hw] at this
  exact this
 have hwd:=decodeL_le s.data.toList (by intro e;have:=aJ s;rw [e] at this;simp at this;omega)
 have hwd1:=decodeL_width s.data.toList
 rw [aJ,hw] at hwd
 rw [hw] at hwd1
 have hr2:=decodeL_rune s.data.toList
 rw [hr] at hk hr2
 have HC:Hid (∀W,Calls prog 74 #[.int .i32 r] W fun e w'=>e=.returned (.int .i64 k)∧W=w'):=fun W=>by rw [←hk];exact fY _ W (by omega) (by omega)
 have HTF:=hid (AG (s:=s) (by rw [hr,hk];exact hk2.2.2.2.2))
 clear hb hT hr hw hk
 go_enter func49,ntmps49
 go_wp2_with fail
 obtain ⟨w0,hw0⟩:=nm_ (w.alloc (.cells #[.int .i64 0,.string ⟨#[]⟩,.int .i64 0,.int .i64 0] 60))
 have hk0:w0.heap[w.heap.size]? = some (.cells #[.int .i64 0,.string ⟨#[]⟩,.int .i64 0,.int .i64 0] 60 (0,0)):=by rw [←hw0];exact I_ _ _
 have hb0:Below w.heap.size w w0:=by rw [←hw0];exact (J_ _ _).alloc le_ _
 have hg0:=bp_ hb0 HB.out
 have HS0:=hid (T_ hb0 (T_ hk0 hg0))
 rw [hw0]
 clear hw0 hb0 hk0 hg0 hc0
 refine (HD.out _ (HT.out.below HS0.out.1)).mono ?_
 rintro e w1 ⟨rfl,hb1⟩
 have HS1:=hid (tU HS0.out.1 HS0.out.2.1 HS0.out.2.2 hb1)
 have c1:=(aB HS1.out.2.2 0).trans rfl
 clear hb1 HS0
 go_wp2_with fail
 refine (HC.out _).mono ?_
 rintro e w' ⟨rfl,rfl⟩
 have q0:=(aB HS1.out.2.1 0).trans rfl
 have q1:=(aB HS1.out.2.1 1).trans rfl
 have q2:=(aB HS1.out.2.1 2).trans rfl
 have q3:=(aB HS1.out.2.1 3).trans rfl
 have f0:=aD HS1.out.2.1 0
 have f1:=aD HS1.out.2.1 1
 have f2:=aD HS1.out.2.1 2
 have f3:=aD HS1.out.2.1 3
 obtain ⟨b2,b3,b5,b4,n2,n3,n5,n4⟩:=hk2
 clear n2 n3 n5 n4
 go_wp2_with fail
 refine L_ (v:=.tuple #[.agg #[.int .i64 0,.string ⟨#[]⟩,.int .i64 0,.int .i64 0],.int .i64 0,.int .i64 11]) (by simp [results,results49,go_sem, *]) rfl ⟨⟨(cB,0,11),?_,rfl⟩,cU HS1.out.1 le_ _ _ _ _⟩
 exact HTF.out.symm
theorem Za (g s at_ v w) (hb:mB w g s at_ v) (hs:s.size≤1000000) (hp:0<s.size) (hT:cF w) (k) (hk:dJ (decodeL s.data.toList).1=k) (hk2:k=4) :
  Calls prog 49 #[.pointer (some ⟨g,0,none⟩)] w fun e w'=>
   (∃t:bQ × Int × Int,t=eX s.data.toList∧e=.returned (.tuple #[.agg #[.int .i64 t.1.kind,.string t.1.text,.int .i64 t.1.n,.int .i64 t.1.at_],.int .i64 t.2.1,.int .i64 t.2.2]))∧Below w.heap.size w w':=by
 have hc0:w.cell? ⟨g,0,none⟩=some (.string s):=(aB hb 0).trans rfl
 have hg:=aC hb
 have HB:=hid hb
 have HT:=hid hT
 obtain ⟨r,hr⟩:=nm_ ((decodeL s.data.toList).1)
 obtain ⟨wd,hw⟩:=nm_ ((decodeL s.data.toList).2)
 have HD:Hid (∀W,cF W→Calls prog 73 #[.string s] W fun e w'=>e=.returned (.tuple #[.int .i32 r,.int .i64 wd])∧Below W.heap.size W w'):=fun W hW=>by
  have:=Tryz.utf8_DecodeRuneInString s W hW.utf
  rw [lR s hp,hr,hw] at this
  exact this
 have hwd:=decodeL_le s.data.toList (by intro e;have:=aJ s;rw [e] at this;simp at this;omega)
 have hwd1:=decodeL_width s.data.toList
 rw [aJ,hw] at hwd
 rw [hw] at hwd1
 have hr2:=decodeL_rune s.data.toList
 rw [hr] at hk hr2
 have HC:Hid (∀W,Calls prog 74 #[.int .i32 r] W fun e w'=>e=.returned (.int .i64 k)∧W=w'):=fun W=>by rw [←hk];exact fY _ W (by omega) (by omega)
 have HTF:=hid (AH (s:=s) (by rw [hr,hk,hk2]))
 rw [hw] at HTF
 clear hb hT hr hw hk
 subst hk2
 obtain ⟨c0,hc0'⟩:=nm_ (s.data.toList.getD 0 0)
 have h00:s[0]=c0:=by rw [mP s hp];exact hc0'
 have hp0:(0:Int)<s.size:=by omega
 have hwz:(wd:Int)≤s.size:=by omega
 by_cases h1:1<s.size
 ·have h1z:(1:Int)<s.size:=by omega
  obtain ⟨c1',hc1⟩:=nm_ (s.data.toList.getD 1 0)
  have h01:s[1]=c1':=by rw [←hc1,S_,R_ (by rw [aJ];exact h1)];rfl
  by_cases h61:c1'=61
  ·subst h61
   obtain ⟨x,hx⟩:=nm_ (indexByte [60,62,61,33,58] c0)
   have HIX:Hid (∀W,Calls prog 75 #[.string ⟨#[60,62,61,33,58]⟩,.int .u8 c0.toNat] W fun e w'=>e=.returned (.int .i64 x)∧W=w'):=fun W=>by
    refine (Tryz.strings_IndexByte ⟨#[60,62,61,33,58]⟩ c0.toNat W).mono ?_
    rintro e w' ⟨rfl,rfl⟩
    exact ⟨by rw [←hx];simp,rfl⟩
   rw [hc0',hc1,hx] at HTF
   have h61b:(((61:UInt8).toNat:Int) == 61)=true:=by decide
   have h2z:(2:Int)≤s.size:=by omega
   rcases Int.lt_or_le x 0 with hx0 | hx0
   ·rw [K_ (by omega)] at HTF
    clear hc0' hc1 hx
    go_enter func49,ntmps49
    go_wp2_with fail
    obtain ⟨w0,hw0⟩:=nm_ (w.alloc (.cells #[.int .i64 0,.string ⟨#[]⟩,.int .i64 0,.int .i64 0] 60))
    have hk0:w0.heap[w.heap.size]? = some (.cells #[.int .i64 0,.string ⟨#[]⟩,.int .i64 0,.int .i64 0] 60 (0,0)):=by rw [←hw0];exact I_ _ _
    have hb0:Below w.heap.size w w0:=by rw [←hw0];exact (J_ _ _).alloc le_ _
    have hg0:=bp_ hb0 HB.out
    have HS0:=hid (T_ hb0 (T_ hk0 hg0))
    rw [hw0]
    clear hw0 hb0 hk0 hg0 hc0
    refine (HD.out _ (HT.out.below HS0.out.1)).mono ?_
    rintro e w1 ⟨rfl,hb1⟩
    have HS1:=hid (tU HS0.out.1 HS0.out.2.1 HS0.out.2.2 hb1)
    have c1:=(aB HS1.out.2.2 0).trans rfl
    clear hb1 HS0
    go_wp2_with fail
    refine (HC.out _).mono ?_
    rintro e w' ⟨rfl,rfl⟩
    have q0:=(aB HS1.out.2.1 0).trans rfl
    have q1:=(aB HS1.out.2.1 1).trans rfl
    have q2:=(aB HS1.out.2.1 2).trans rfl
    have q3:=(aB HS1.out.2.1 3).trans rfl
    have f0:=aD HS1.out.2.1 0
    have f1:=aD HS1.out.2.1 1
    have f2:=aD HS1.out.2.1 2
    have f3:=aD HS1.out.2.1 3
    go_wp2_with (go_at_call 75;refine (HIX.out _).mono ?_;rintro e w' ⟨rfl,rfl⟩)
    refine L_ (v:=.tuple #[.agg #[.int .i64 4,.string (s.extract 0 wd),.int .i64 0,.int .i64 0],.int .i64 wd,.int .i64 0]) (by simp [results,results49,go_sem, *]) rfl ⟨⟨(⟨4,s.extract 0 wd,0,0⟩,wd,0),HTF.out.symm,rfl⟩,cU HS1.out.1 le_ _ _ _ _⟩
   ·rw [M_ ⟨h1,rfl,hx0⟩] at HTF
    clear hc0' hc1 hx
    go_enter func49,ntmps49
    go_wp2_with fail
    obtain ⟨w0,hw0⟩:=nm_ (w.alloc (.cells #[.int .i64 0,.string ⟨#[]⟩,.int .i64 0,.int .i64 0] 60))
    have hk0:w0.heap[w.heap.size]? = some (.cells #[.int .i64 0,.string ⟨#[]⟩,.int .i64 0,.int .i64 0] 60 (0,0)):=by rw [←hw0];exact I_ _ _
    have hb0:Below w.heap.size w w0:=by rw [←hw0];exact (J_ _ _).alloc le_ _
    have hg0:=bp_ hb0 HB.out
    have HS0:=hid (T_ hb0 (T_ hk0 hg0))
    rw [hw0]
    clear hw0 hb0 hk0 hg0 hc0
    refine (HD.out _ (HT.out.below HS0.out.1)).mono ?_
    rintro e w1 ⟨rfl,hb1⟩
    have HS1:=hid (tU HS0.out.1 HS0.out.2.1 HS0.out.2.2 hb1)
    have c1:=(aB HS1.out.2.2 0).trans rfl
    clear hb1 HS0
    go_wp2_with fail
    refine (HC.out _).mono ?_
    rintro e w' ⟨rfl,rfl⟩
    have q0:=(aB HS1.out.2.1 0).trans rfl
    have q1:=(aB HS1.out.2.1 1).trans rfl
    have q2:=(aB HS1.out.2.1 2).trans rfl
    have q3:=(aB HS1.out.2.1 3).trans rfl
    have f0:=aD HS1.out.2.1 0
    have f1:=aD HS1.out.2.1 1
    have f2:=aD HS1.out.2.1 2
    have f3:=aD HS1.out.2.1 3
    go_wp2_with (go_at_call 75;refine (HIX.out _).mono ?_;rintro e w' ⟨rfl,rfl⟩)
    refine L_ (v:=.tuple #[.agg #[.int .i64 4,.string (s.extract 0 2),.int .i64 0,.int .i64 0],.int .i64 2,.int .i64 0]) (by simp [results,results49,go_sem, *]) rfl ⟨⟨(⟨4,s.extract 0 2,0,0⟩,2,0),HTF.out.symm,rfl⟩,cU HS1.out.1 le_ _ _ _ _⟩
  ·have h61b:((c1'.toNat:Int) == 61)=false:=by rw [beq_eq_false_iff_ne];intro e;exact h61 (UInt8.toNat_inj.1 (by simpa using (by omega:c1'.toNat=61)))
   have hlt:=c1'.toNat_lt
   rw [hc1,K_ (fun h=>h61 h.2.1)] at HTF
   clear hc0' hc1 h61
   go_enter func49,ntmps49
   go_wp2_with fail
   obtain ⟨w0,hw0⟩:=nm_ (w.alloc (.cells #[.int .i64 0,.string ⟨#[]⟩,.int .i64 0,.int .i64 0] 60))
   have hk0:w0.heap[w.heap.size]? = some (.cells #[.int .i64 0,.string ⟨#[]⟩,.int .i64 0,.int .i64 0] 60 (0,0)):=by rw [←hw0];exact I_ _ _
   have hb0:Below w.heap.size w w0:=by rw [←hw0];exact (J_ _ _).alloc le_ _
   have hg0:=bp_ hb0 HB.out
   have HS0:=hid (T_ hb0 (T_ hk0 hg0))
   rw [hw0]
   clear hw0 hb0 hk0 hg0 hc0
   refine (HD.out _ (HT.out.below HS0.out.1)).mono ?_
   rintro e w1 ⟨rfl,hb1⟩
   have HS1:=hid (tU HS0.out.1 HS0.out.2.1 HS0.out.2.2 hb1)
   have c1:=(aB HS1.out.2.2 0).trans rfl
   clear hb1 HS0
   go_wp2_with fail
   refine (HC.out _).mono ?_
   rintro e w' ⟨rfl,rfl⟩
   have q0:=(aB HS1.out.2.1 0).trans rfl
   have q1:=(aB HS1.out.2.1 1).trans rfl
   have q2:=(aB HS1.out.2.1 2).trans rfl
   have q3:=(aB HS1.out.2.1 3).trans rfl
   have f0:=aD HS1.out.2.1 0
   have f1:=aD HS1.out.2.1 1
   have f2:=aD HS1.out.2.1 2
   have f3:=aD HS1.out.2.1 3
   go_wp2_with fail
   refine L_ (v:=.tuple #[.agg #[.int .i64 4,.string (s.extract 0 wd),.int .i64 0,.int .i64 0],.int .i64 wd,.int .i64 0]) (by simp [results,results49,go_sem, *]) rfl ⟨⟨(⟨4,s.extract 0 wd,0,0⟩,wd,0),HTF.out.symm,rfl⟩,cU HS1.out.1 le_ _ _ _ _⟩
 ·have h1z:(s.size:Int)≤1:=by omega
  rw [K_ (fun h=>h1 h.1)] at HTF
  clear hc0' h1
  go_enter func49,ntmps49
  go_wp2_with fail
  obtain ⟨w0,hw0⟩:=nm_ (w.alloc (.cells #[.int .i64 0,.string ⟨#[]⟩,.int .i64 0,.int .i64 0] 60))
  have hk0:w0.heap[w.heap.size]? = some (.cells #[.int .i64 0,.string ⟨#[]⟩,.int .i64 0,.int .i64 0] 60 (0,0)):=by rw [←hw0];exact I_ _ _
  have hb0:Below w.heap.size w w0:=by rw [←hw0];exact (J_ _ _).alloc le_ _
  have hg0:=bp_ hb0 HB.out
  have HS0:=hid (T_ hb0 (T_ hk0 hg0))
  rw [hw0]
  clear hw0 hb0 hk0 hg0 hc0
  refine (HD.out _ (HT.out.below HS0.out.1)).mono ?_
  rintro e w1 ⟨rfl,hb1⟩
  have HS1:=hid (tU HS0.out.1 HS0.out.2.1 HS0.out.2.2 hb1)
  have c1:=(aB HS1.out.2.2 0).trans rfl
  clear hb1 HS0
  go_wp2_with fail
  refine (HC.out _).mono ?_
  rintro e w' ⟨rfl,rfl⟩
  have q0:=(aB HS1.out.2.1 0).trans rfl
  have q1:=(aB HS1.out.2.1 1).trans rfl
  have q2:=(aB HS1.out.2.1 2).trans rfl
  have q3:=(aB HS1.out.2.1 3).trans rfl
  have f0:=aD HS1.out.2.1 0
  have f1:=aD HS1.out.2.1 1
  have f2:=aD HS1.out.2.1 2
  have f3:=aD HS1.out.2.1 3
  go_wp2_with fail
  refine L_ (v:=.tuple #[.agg #[.int .i64 4,.string (s.extract 0 wd),.int .i64 0,.int .i64 0],.int .i64 wd,.int .i64 0]) (by simp [results,results49,go_sem, *]) rfl ⟨by rw [HTF.out],cU HS1.out.1 le_ _ _ _ _⟩
theorem Of (g s at_ v w) (hb:mB w g s at_ v) (hs:s.size≤1000000) (hp:0<s.size) (hT:cF w) :
  Calls prog 49 #[.pointer (some ⟨g,0,none⟩)] w fun e w'=>
   (∃t:bQ × Int × Int,t=eX s.data.toList∧e=.returned (.tuple #[.agg #[.int .i64 t.1.kind,.string t.1.text,.int .i64 t.1.n,.int .i64 t.1.at_],.int .i64 t.2.1,.int .i64 t.2.2]))∧Below w.heap.size w w':=by
 rcases BC (dJ (decodeL s.data.toList).1) with h | h | h | h | h
 ·exact Yw g s at_ v w hb hs hp hT _ rfl h
 ·exact Yx g s at_ v w hb hs hp hT _ rfl h
 ·exact Yy g s at_ v w hb hs hp hT _ rfl h
 ·exact Za g s at_ v w hb hs hp hT _ rfl h
 ·exact Yz g s at_ v w hb hs hp hT _ rfl h
end Go.Proofs.YtgcfjkfipkfijaaGreatDoor
