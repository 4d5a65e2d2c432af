/- Part 19 of the proof of rtrees_card; no conditions. -/
import Derived.Test.YtgcfjkfipkfijaaGreatDoorTr01
import Derived.Test.YtgcfjkfipkfijaaGreatDoorTr18
set_option maxRecDepth 100000
set_option maxHeartbeats 8000000
namespace Go.Proofs.YtgcfjkfipkfijaaGreatDoor
open Go Go.RowKit Go.Lib _root_.Go.Proofs.Tryz
theorem Wp {P Q w A B a b xs ys} (hx:aO (aN.int .i64) P w A a xs) (hy:aO (aN.int .i64) Q w B b ys) :
  Calls prog 101 #[.slice A xs.length a,.slice B ys.length b] w fun r w'=>r=.returned (.bool (decide (xs=ys)))∧Below w.heap.size w w':=by
 obtain ⟨F,hF⟩:=nm_ (decide (xs=ys))
 rw [hF]
 have hxm:=(hx.2 [] (by simp)).1
 have hym:=(hy.2 [] (by simp)).1
 have hxc:=hx.1
 have hyc:=hy.1
 obtain ⟨n,hn⟩:=nm_ xs.length
 obtain ⟨m,hm⟩:=nm_ ys.length
 rw [hn] at hxm hxc ⊢
 rw [hm] at hym hyc ⊢
 have H:=hm_ hx hy hn hm hF
 clear hx hy hn hm hF
 by_cases hnm:n=m
 ·subst hnm
  go_enter func101,ntmps101
  go_wp2_with fail
  go_loopg [13] (n+1) (fun q s13 wr=>∃i:Nat,s13=.int .i64 (i:Nat)∧i≤n∧n - i<q∧xs.take i=ys.take i∧Below w.heap.size w wr)
  case atStart=>exact ⟨0,rfl,h_ _,by omega,by simp,J_ _ _⟩
  case round=>
   obtain ⟨i,rfl,hin,hiq,htk,hb⟩:=hrel
   obtain ⟨gk,rfl⟩:=pk_ gk 1 (by omega)
   by_cases hlt:i<n
   ·have hix:i<xs.length:=by rw [H.out.2.2.1];exact hlt
    have hiy:i<ys.length:=by rw [H.out.2.2.2.1];exact hlt
    obtain ⟨ad,rfl,c0,hl1⟩:=dT (H.out.1.below hb) i hix
    obtain ⟨bd,rfl,d0,hl2⟩:=dT (H.out.2.1.below hb) i hiy
    obtain ⟨x,hxx⟩:=nm_ (xs[i])
    obtain ⟨y,hyy⟩:=nm_ (ys[i])
    have hs1:xs.take (i+1)=xs.take i++[x]:=by rw [Z_ hix,hxx]
    have hs2:ys.take (i+1)=ys.take i++[y]:=by rw [Z_ hiy,hyy]
    rw [hxx] at c0
    rw [hyy] at d0
    have HS:=hl_ hs1 hs2 htk hb
    have hz:(i:Int)<n:=by omega
    have hz0:(0:Int)≤i:=by omega
    clear hs1 hs2 htk hb hix hiy hxx hyy
    by_cases hxy:x=y
    ·subst hxy
     go_wp2_with fail
     go_region
     all_goals
      go_wp2_with fail
      go_roundg gk
      case measure=>omega
      case rel=>exact ⟨i+1,by go_num,by omega,by omega,by rw [HS.out.1,HS.out.2.1,HS.out.2.2.1],HS.out.2.2.2.drew⟩
    ·have t1:(x == y)=false:=aW hxy
     have t2:(x != y)=true:=by unfold bne;rw [t1];rfl
     have HF:Hid (F=false):=hid (by
      rw [←H.out.2.2.2.2]
      refine V_ (fun e=>hxy ?_)
      have h1:=HS.out.1
      rw [e,HS.out.2.1] at h1
      have:=List.append_inj' h1 rfl
      simpa using this.2.symm)
     go_wp2_with fail
     go_region
     all_goals
      go_wp2_with fail
      refine L_ (v:=.bool false) (by simp [results,results101,go_sem, *]) rfl ?_
      exact ⟨by rw [HF.out],HS.out.2.2.2.drew⟩
   ·obtain rfl:i=n:=by omega
    have HF:Hid (F=true):=hid (by
     rw [←H.out.2.2.2.2]
     refine W_ ?_
     have h1:xs.take xs.length=ys.take ys.length:=by rw [H.out.2.2.1,H.out.2.2.2.1];exact htk
     simpa using h1)
    have HB:=hid hb
    clear hb htk
    go_wp2_with fail
    refine L_ (v:=.bool true) (by simp [results,results101,go_sem, *]) rfl ?_
    exact ⟨by rw [HF.out],HB.out⟩
 ·have t1:((n:Int) == m)=false:=aW (by omega)
  have t2:((n:Int) != m)=true:=by unfold bne;rw [t1];rfl
  have HF:Hid (F=false):=hid (by
   rw [←H.out.2.2.2.2]
   refine V_ (fun e=>hnm ?_)
   rw [←H.out.2.2.1,←H.out.2.2.2.1,e])
  clear hnm
  go_enter func101,ntmps101
  go_wp2_with fail
  refine L_ (v:=.bool false) (by simp [results,results101,go_sem, *]) rfl ?_
  exact ⟨by rw [HF.out],J_ _ _⟩
end Go.Proofs.YtgcfjkfipkfijaaGreatDoor
namespace Go.Proofs.YtgcfjkfipkfijaaGreatDoor
open Go Go.RowKit Go.Lib _root_.Go.Proofs.Tryz
theorem iD {P w A c l} (h:aO aN.str P w A c l) (i) (hi:i<l.length):∃ad,A=some ad∧w.cell? (ad.add i)=some (.string l[i])∧ad.block<w.heap.size:=by
 obtain ⟨ad,cs,e,hav,hcell⟩:=h.at_ i hi
 have he:cs=[.string l[i]]:=hav [] (by simp)
 subst he
 refine ⟨ad,e,?_,rG h i hi e⟩
 have:=hcell 0 _ rfl
 simpa [aN.str] using this
theorem Wq {P Q w A B a b xs ys} (hx:aO aN.str P w A a xs) (hy:aO aN.str Q w B b ys) :
  Calls prog 102 #[.slice A xs.length a,.slice B ys.length b] w fun r w'=>r=.returned (.bool (decide (xs=ys)))∧Below w.heap.size w w':=by
 obtain ⟨F,hF⟩:=nm_ (decide (xs=ys))
 rw [hF]
 have hxm:=(hx.2 [] (by simp)).1
 have hym:=(hy.2 [] (by simp)).1
 have hxc:=hx.1
 have hyc:=hy.1
 obtain ⟨n,hn⟩:=nm_ xs.length
 obtain ⟨m,hm⟩:=nm_ ys.length
 rw [hn] at hxm hxc ⊢
 rw [hm] at hym hyc ⊢
 have H:=hm_ hx hy hn hm hF
 clear hx hy hn hm hF
 by_cases hnm:n=m
 ·subst hnm
  go_enter func102,ntmps102
  go_wp2_with fail
  go_loopg [13] (n+1) (fun q s13 wr=>∃i:Nat,s13=.int .i64 (i:Nat)∧i≤n∧n - i<q∧xs.take i=ys.take i∧Below w.heap.size w wr)
  case atStart=>exact ⟨0,rfl,h_ _,by omega,by simp,J_ _ _⟩
  case round=>
   obtain ⟨i,rfl,hin,hiq,htk,hb⟩:=hrel
   obtain ⟨gk,rfl⟩:=pk_ gk 1 (by omega)
   by_cases hlt:i<n
   ·have hix:i<xs.length:=by rw [H.out.2.2.1];exact hlt
    have hiy:i<ys.length:=by rw [H.out.2.2.2.1];exact hlt
    obtain ⟨ad,rfl,c0,hl1⟩:=iD (H.out.1.below hb) i hix
    obtain ⟨bd,rfl,d0,hl2⟩:=iD (H.out.2.1.below hb) i hiy
    obtain ⟨x,hxx⟩:=nm_ (xs[i])
    obtain ⟨y,hyy⟩:=nm_ (ys[i])
    have hs1:xs.take (i+1)=xs.take i++[x]:=by rw [Z_ hix,hxx]
    have hs2:ys.take (i+1)=ys.take i++[y]:=by rw [Z_ hiy,hyy]
    rw [hxx] at c0
    rw [hyy] at d0
    have HS:=hl_ hs1 hs2 htk hb
    have hz:(i:Int)<n:=by omega
    have hz0:(0:Int)≤i:=by omega
    clear hs1 hs2 htk hb hix hiy hxx hyy
    by_cases hxy:x=y
    ·subst hxy
     go_wp2_with fail
     go_region
     all_goals
      go_wp2_with fail
      go_roundg gk
      case measure=>omega
      case rel=>exact ⟨i+1,by go_num,by omega,by omega,by rw [HS.out.1,HS.out.2.1,HS.out.2.2.1],HS.out.2.2.2.drew⟩
    ·have t1:(x.data.toList == y.data.toList)=false:=by
      rw [beq_eq_false_iff_ne]
      exact fun e=>hxy (ByteArray.ext (Array.toList_inj.1 e))
     have t2:(x.toList == y.toList)=false:=by rw [Lib.toList_data,Lib.toList_data];exact t1
     have HF:Hid (F=false):=hid (by
      rw [←H.out.2.2.2.2]
      refine V_ (fun e=>hxy ?_)
      have h1:=HS.out.1
      rw [e,HS.out.2.1] at h1
      have:=List.append_inj' h1 rfl
      simpa using this.2.symm)
     go_wp2_with fail
     go_region
     all_goals
      go_wp2_with fail
      refine L_ (v:=.bool false) (by simp [results,results102,go_sem, *]) rfl ?_
      exact ⟨by rw [HF.out],HS.out.2.2.2.drew⟩
   ·obtain rfl:i=n:=by omega
    have HF:Hid (F=true):=hid (by
     rw [←H.out.2.2.2.2]
     refine W_ ?_
     have h1:xs.take xs.length=ys.take ys.length:=by rw [H.out.2.2.1,H.out.2.2.2.1];exact htk
     simpa using h1)
    have HB:=hid hb
    clear hb htk
    go_wp2_with fail
    refine L_ (v:=.bool true) (by simp [results,results102,go_sem, *]) rfl ?_
    exact ⟨by rw [HF.out],HB.out⟩
 ·have t1:((n:Int) == m)=false:=aW (by omega)
  have t2:((n:Int) != m)=true:=by unfold bne;rw [t1];rfl
  have HF:Hid (F=false):=hid (by
   rw [←H.out.2.2.2.2]
   refine V_ (fun e=>hnm ?_)
   rw [←H.out.2.2.1,←H.out.2.2.2.1,e])
  clear hnm
  go_enter func102,ntmps102
  go_wp2_with fail
  refine L_ (v:=.bool false) (by simp [results,results102,go_sem, *]) rfl ?_
  exact ⟨by rw [HF.out],J_ _ _⟩
end Go.Proofs.YtgcfjkfipkfijaaGreatDoor
namespace Go.Proofs.YtgcfjkfipkfijaaGreatDoor
open Go Go.RowKit Go.Lib _root_.Go.Proofs.Tryz
open Classical in
theorem Wr {P Q:Nat→Prop} {w:World} {A B:Option Addr} {a b:Nat} {xs ys:List oF} (hx:aO kE P w A a xs) (hy:aO kE Q w B b ys) :
  Calls prog 69 #[.slice A xs.length a,.slice B ys.length b] w fun r w'=>r=.returned (.bool (decide (xs=ys)))∧Below w.heap.size w w':=by
 obtain ⟨F,hF⟩:=nm_ (decide (xs=ys))
 rw [hF]
 have hxm:=(hx.2 [] (by simp)).1
 have hym:=(hy.2 [] (by simp)).1
 have hxc:=hx.1
 have hyc:=hy.1
 obtain ⟨n,hn⟩:=nm_ xs.length
 obtain ⟨m,hm⟩:=nm_ ys.length
 rw [hn] at hxm hxc ⊢
 rw [hm] at hym hyc ⊢
 have H:=hm_ hx hy hn hm hF
 clear hx hy hn hm hF
 by_cases hnm:n=m
 ·subst hnm
  go_enter func69,ntmps69
  go_wp2_with fail
  go_loopg [13] (n+1) (fun q s13 wr=>∃i:Nat,s13=.int .i64 (i:Nat)∧i≤n∧n - i<q∧xs.take i=ys.take i∧Below w.heap.size w wr)
  case atStart=>exact ⟨0,rfl,h_ _,by omega,by simp,J_ _ _⟩
  case round=>
   obtain ⟨i,rfl,hin,hiq,htk,hb⟩:=hrel
   obtain ⟨gk,rfl⟩:=pk_ gk 1 (by omega)
   by_cases hlt:i<n
   ·have hix:i<xs.length:=by rw [H.out.2.2.1];exact hlt
    have hiy:i<ys.length:=by rw [H.out.2.2.2.1];exact hlt
    obtain ⟨ad,rfl,c0,c1,c2,hl1⟩:=jR (H.out.1.below hb) i hix
    obtain ⟨bd,rfl,d0,d1,d2,hl2⟩:=jR (H.out.2.1.below hb) i hiy
    obtain ⟨x,hxx⟩:=nm_ (xs[i])
    obtain ⟨y,hyy⟩:=nm_ (ys[i])
    have hs1:xs.take (i+1)=xs.take i++[x]:=by rw [Z_ hix,hxx]
    have hs2:ys.take (i+1)=ys.take i++[y]:=by rw [Z_ hiy,hyy]
    rw [hxx] at c0 c1 c2
    rw [hyy] at d0 d1 d2
    obtain ⟨xn,xi,xs'⟩:=x
    obtain ⟨yn,yi,ys'⟩:=y
    simp only at c0 c1 c2 d0 d1 d2
    have HS:=hl_ hs1 hs2 htk hb
    have hz:(i:Int)<n:=by omega
    have hz0:(0:Int)≤i:=by omega
    clear hs1 hs2 htk hb hix hiy hxx hyy
    by_cases hxy:(⟨xn,xi,xs'⟩:oF)=⟨yn,yi,ys'⟩
    ·injection hxy with e1 e2 e3
     subst e1 e2 e3
     go_wp2_with fail
     go_region
     all_goals
      go_wp2_with fail
      go_roundg gk
      case measure=>omega
      case rel=>exact ⟨i+1,by go_num,by omega,by omega,by rw [HS.out.1,HS.out.2.1,HS.out.2.2.1],HS.out.2.2.2.drew⟩
    ·have HF:Hid (F=false):=hid (by
      rw [←H.out.2.2.2.2]
      refine V_ (fun e=>hxy ?_)
      have h1:=HS.out.1
      rw [e,HS.out.2.1] at h1
      have:=List.append_inj' h1 rfl
      simpa using this.2.symm)
     by_cases q1:xn=yn
     ·subst q1
      by_cases q2:xi=yi
      ·subst q2
       have q3:¬xs'=ys':=fun e=>hxy (by rw [e])
       clear hxy
       go_wp2_with fail
       go_region
       all_goals
        go_wp2_with fail
        refine L_ (v:=.bool false) (by simp [results,results69,go_sem, *]) rfl ?_
        exact ⟨by rw [HF.out],HS.out.2.2.2.drew⟩
      ·clear hxy
       go_wp2_with fail
       go_region
       all_goals
        go_wp2_with fail
        refine L_ (v:=.bool false) (by simp [results,results69,go_sem, *]) rfl ?_
        exact ⟨by rw [HF.out],HS.out.2.2.2.drew⟩
     ·have q4:¬xn.toList=yn.toList:=fun e=>q1 (by
       rw [Lib.toList_data,Lib.toList_data] at e
       exact ByteArray.ext (Array.toList_inj.1 e))
      clear hxy
      go_wp2_with fail
      go_region
      all_goals
       go_wp2_with fail
       refine L_ (v:=.bool false) (by simp [results,results69,go_sem, *]) rfl ?_
       exact ⟨by rw [HF.out],HS.out.2.2.2.drew⟩
   ·obtain rfl:i=n:=by omega
    have HF:Hid (F=true):=hid (by
     rw [←H.out.2.2.2.2]
     refine W_ ?_
     have h1:xs.take xs.length=ys.take ys.length:=by rw [H.out.2.2.1,H.out.2.2.2.1];exact htk
     simpa using h1)
    have HB:=hid hb
    clear hb htk
    go_wp2_with fail
    refine L_ (v:=.bool true) (by simp [results,results69,go_sem, *]) rfl ?_
    exact ⟨by rw [HF.out],HB.out⟩
 ·have t1:((n:Int) == m)=false:=aW (by omega)
  have t2:((n:Int) != m)=true:=by unfold bne;rw [t1];rfl
  have HF:Hid (F=false):=hid (by
   rw [←H.out.2.2.2.2]
   refine V_ (fun e=>hnm ?_)
   rw [←H.out.2.2.1,←H.out.2.2.2.1,e])
  clear hnm
  go_enter func69,ntmps69
  go_wp2_with fail
  refine L_ (v:=.bool false) (by simp [results,results69,go_sem, *]) rfl ?_
  exact ⟨by rw [HF.out],J_ _ _⟩
end Go.Proofs.YtgcfjkfipkfijaaGreatDoor
namespace Go.Proofs.YtgcfjkfipkfijaaGreatDoor
open Go Go.RowKit Go.Lib _root_.Go.Proofs.Tryz
open Classical in
noncomputable def nW (r:tL):Bool:=(fF r).2 && ((iF (str (fF r).1)).2.1 == 0 && decide ((iF (str (fF r).1)).1=r))
noncomputable def nX (r:tL):ByteArray:=if nW r=true then str (fF r).1 else ⟨#[]⟩
theorem lP (r):nW r=true↔(fF r).2=true∧(iF (str (fF r).1)).2.1=0∧(iF (str (fF r).1)).1=r:=by
 unfold nW
 simp only [a_,beq_iff_eq,decide_eq_true_eq]
def fG (kind:Int) (x:Nd):List ByteArray:=if x.kind=kind then (if x.kind=3 then [x.name] else x.units) else []
def kG (l:List ByteArray) (s:ByteArray):List ByteArray:=if Dr s l=true then l else l++[s]
noncomputable def gW (r:tL) (kind:Int):List ByteArray:=if nW r=true then (r.nodes.flatMap (fG kind)).foldl kG [] else []
end Go.Proofs.YtgcfjkfipkfijaaGreatDoor
namespace Go.Proofs.YtgcfjkfipkfijaaGreatDoor
open Go Go.RowKit Go.Lib _root_.Go.Proofs.Tryz
variable {F : FuncId} {a b i : Nat} {P Q : Nat → Prop} {A B : Option Addr} {α : Type} {w : World} {xs ys : List α}
theorem sP {P w ad c l} (h:aO gU P w (some ad) c l) (i) (hi:i<l.length):∃A ec,(w.cell? (ad.add (i*4))=some (.int .i64 l[i].op)∧w.cell? ⟨(ad.add (i*4)).block,(ad.add (i*4)).off+1,none⟩=some (.int .i64 l[i].n) ∧
  w.cell? ⟨(ad.add (i*4)).block,(ad.add (i*4)).off+2,none⟩=some (.string l[i].name)∧w.cell? ⟨(ad.add (i*4)).block,(ad.add (i*4)).off+3,none⟩=some (.slice A l[i].kids.length ec)) ∧
  cR P w l[i] A ec∧(ad.add (i*4)).block<w.heap.size:=by
 obtain ⟨ad',cs,e,hav,hcell⟩:=h.at_ i hi
 injection e with e
 subst e
 obtain ⟨A,ec,rfl,hec,_⟩:=oR (hav [] (by simp))
 refine ⟨A,ec,⟨hcell 0 _ rfl,?_,?_,?_⟩,⟨hec,fun M hM=>?_⟩,by rw [pX];exact rG h i hi rfl⟩
 ·rw [←jL _ _ 1 (by decide)];exact hcell 1 _ rfl
 ·rw [←jL _ _ 2 (by decide)];exact hcell 2 _ rfl
 ·rw [←jL _ _ 3 (by decide)];exact hcell 3 _ rfl
 ·obtain ⟨A',ec',e',_,hex'⟩:=oR (hav M hM)
  simp at e'
  rw [e'.1]
  exact hex'
theorem kP {w cs ds t u}:∃w0,(w.alloc (.cells cs t)).alloc (.cells ds u)=w0∧Below w.heap.size w w0∧w0.heap[w.heap.size]? = some (.cells cs t (0,0))∧w0.heap[w.heap.size+1]? = some (.cells ds u (0,0)):=by
 refine ⟨_,rfl,((J_ _ _).alloc le_ _).alloc (by simp) _,(Below.heap_alloc _ _ _ (by simp)).trans (I_ _ _),?_⟩
 have h:=I_ (w.alloc (.cells cs t)) (.cells ds u)
 simpa using h
theorem fN {d:aN α} {c:Nat} {l:List α} (h:aO d P w A c l) (i) (hi:i<l.length):∃ad,A=some ad:=by
 obtain ⟨ad,cs,e,_⟩:=h.at_ i hi
 exact ⟨ad,e⟩
theorem kQ {n:Nat} (hn:xs.length=n) (hm:ys.length=n) (h:xs.take i=ys.take i) (hi:i=n):xs=ys:=by
 subst hi
 rw [List.take_of_length_le (by omega),List.take_of_length_le (by omega)] at h
 exact h
theorem gD (h1:i<xs.length) (h2:i<ys.length) (h:xs.take i=ys.take i) (e:xs[i]=ys[i]):xs.take (i+1)=ys.take (i+1):=by
 rw [Z_ h1,Z_ h2,h,e]
theorem pC (h1:i<xs.length) (h2:i<ys.length) (e:xs[i]≠ys[i]):xs≠ys:=fun h=>e (by subst h;rfl)
def Zy (P:Nat→Prop) (w:World) (e:Ex) (v:Value):Prop:=∃A c,v=eJ e A c∧cR P w e A c
def Zz (P:Nat→Prop) (w:World) (a:Ar) (v:Value):Prop:=∃A c,v=.agg #[.string a.name,.int .i64 a.e.op,.int .i64 a.e.n,.string a.e.name,.slice A a.e.kids.length c]∧cR P w a.e A c
structure Qp (P:Nat→Prop) (w:World) (x:Nd) (kA:Option Addr) (kc:Nat) (uA:Option Addr) (uc:Nat) (gA:Option Addr) (gc:Nat) (eA:Option Addr) (ec:Nat):Prop where
 kids:aO (aN.int .i64) P w kA kc x.kids
 units:aO aN.str P w uA uc x.units
 args:aO oH P w gA gc x.args
 ex:cR P w x.e eA ec
theorem Qp.below {P w w' x kA uA gA eA kc uc gc ec} (h:Qp P w x kA kc uA uc gA gc eA ec) (hs:Below w.heap.size w w'):Qp P w' x kA kc uA uc gA gc eA ec:=⟨h.kids.below hs,h.units.below hs,h.args.below hs,h.ex.below hs⟩
abbrev AA (x:Nd) (kA:Option Addr) (kc:Nat) (uA:Option Addr) (uc:Nat) (gA:Option Addr) (gc:Nat) (eA:Option Addr) (ec:Nat):Value:=
 .agg #[.int .i64 x.kind,.slice kA x.kids.length kc,.slice uA x.units.length uc,.string x.name,.slice gA x.args.length gc,.int .i64 x.e.op,.int .i64 x.e.n,.string x.e.name,.slice eA x.e.kids.length ec]
def AB (P:Nat→Prop) (w:World) (x:Nd) (v:Value):Prop:=∃kA kc uA uc gA gc eA ec,v=AA x kA kc uA uc gA gc eA ec∧Qp P w x kA kc uA uc gA gc eA ec
open Classical in
theorem Ws {xs ys:List Ex} (hx:aO gU P w A a xs) (hy:aO gU Q w B b ys)
  (eg:∀args w,(callFunc F args).run prog w=.ok (.enter F args) w)
  (hF:∀i (hi:i<xs.length) (hj:i<ys.length) u v W,Below w.heap.size w W→Zy P W xs[i] u→Zy Q W ys[i] v→Calls prog F #[u,v] W fun r w'=>r=.returned (.bool (decide (xs[i]=ys[i])))∧Below W.heap.size W w') :
  Calls prog 116 #[.slice A xs.length a,.slice B ys.length b,.func (.func F) #[] #[]] w fun r w'=>r=.returned (.bool (decide (xs=ys)))∧Below w.heap.size w w':=by
 obtain ⟨R,hR⟩:=nm_ (decide (xs=ys))
 rw [hR]
 have hxm:=(hx.2 [] (by simp)).1
 have hym:=(hy.2 [] (by simp)).1
 have hxc:=hx.1
 have hyc:=hy.1
 obtain ⟨n,hn⟩:=nm_ xs.length
 obtain ⟨m,hm⟩:=nm_ ys.length
 have H:=hid (⟨hx,hy,hF,hn,hm,hR⟩:_∧_∧_∧_∧_∧_)
 rw [hn] at hxm hxc ⊢
 rw [hm] at hym hyc ⊢
 clear hx hy hn hm hR hF
 by_cases hnm:n=m
 ·subst hnm
  go_enter func116,ntmps116
  go_wp2_with fail
  go_loopg [17] (n+1) (fun q s17 wr=>∃i:Nat,s17=.int .i64 (i:Nat)∧i≤n∧n - i<q∧xs.take i=ys.take i∧Below w.heap.size w wr)
  case atStart=>exact ⟨0,rfl,h_ _,by omega,by simp,J_ _ _⟩
  case round=>
   obtain ⟨i,rfl,hin,hiq,htk,hb⟩:=hrel
   obtain ⟨gk,rfl⟩:=pk_ gk 1 (by omega)
   by_cases hlt:i<n
   ·have hix:i<xs.length:=by rw [H.out.2.2.2.1];exact hlt
    have hiy:i<ys.length:=by rw [H.out.2.2.2.2.1];exact hlt
    obtain ⟨ad,rfl⟩:=fN H.out.1 i hix
    obtain ⟨bd,rfl⟩:=fN H.out.2.1 i hiy
    obtain ⟨uA,uc,⟨c0,c1,c2,c3⟩,hux,hul⟩:=sP (H.out.1.below hb) i hix
    obtain ⟨vA,vc,⟨d0,d1,d2,d3⟩,hvx,hvl⟩:=sP (H.out.2.1.below hb) i hiy
    have HC:=hid (fun W (hW:Below wr.heap.size wr W)=>H.out.2.2.1 i hix hiy _ _ W (hb.trans (hW.mono hb.size)) ⟨uA,uc,rfl,hux.below hW⟩ ⟨vA,vc,rfl,hvx.below hW⟩)
    clear hux hvx
    obtain ⟨q,hq⟩:=nm_ (decide (xs[i]=ys[i]))
    rw [hq] at HC
    have HS:=hid (⟨hix,hiy,hq,htk,hb⟩:∃(h1:i<xs.length) (h2:i<ys.length),decide (xs[i]=ys[i])=q∧xs.take i=ys.take i∧Below w.heap.size w wr)
    obtain ⟨x,hxx⟩:=nm_ (xs[i])
    obtain ⟨y,hyy⟩:=nm_ (ys[i])
    rw [hxx] at HC c0 c1 c2 c3
    rw [hyy] at HC d0 d1 d2 d3
    have hz:(i:Int)<n:=by omega
    have hz0:(0:Int)≤i:=by omega
    clear htk hb hxx hyy hq hix hiy
    go_wp2_with fail
    obtain ⟨w2,hw2,hb2,_⟩:=kP (w:=wr) (cs:=#[.int .i64 x.op,.int .i64 x.n,.string x.name,.slice uA x.kids.length uc]) (ds:=#[.int .i64 y.op,.int .i64 y.n,.string y.name,.slice vA y.kids.length vc]) (t:=41) (u:=41)
    rw [hw2]
    refine (HC.out w2 hb2).mono ?_
    rintro r w3 ⟨rfl,hb3⟩
    have HB3:=hid (hb2.trans (hb3.mono hb2.size))
    clear hw2 hb2 hb3 c0 c1 c2 c3 d0 d1 d2 d3
    cases q
    ·have HF:Hid (R=false):=hid (by
      obtain ⟨h1,h2,h3,_⟩:=HS.out
      rw [←H.out.2.2.2.2.2]
      exact V_ (pC h1 h2 (of_decide_eq_false h3)))
     have HB:Hid (Below w.heap.size w w3):=hid (by obtain ⟨_,_,_,_,h5⟩:=HS.out;exact h5.trans (HB3.out.mono h5.size))
     go_wp2_with fail
     refine L_ (v:=.bool false) (by simp [results,results116,go_sem, *]) rfl ?_
     exact ⟨by rw [HF.out],HB.out⟩
    ·go_wp2_with fail
     go_roundg gk
     case measure=>omega
     case rel=>
      obtain ⟨h1,h2,h3,h4,h5⟩:=HS.out
      exact ⟨i+1,by go_num,by omega,by omega,gD h1 h2 h4 (of_decide_eq_true h3),h5.trans (HB3.out.mono h5.size)⟩
   ·obtain rfl:i=n:=by omega
    have HF:Hid (R=true):=hid (by
     rw [←H.out.2.2.2.2.2]
     exact W_ (kQ H.out.2.2.2.1 H.out.2.2.2.2.1 htk rfl))
    have HB:=hid hb
    clear hb htk
    go_wp2_with fail
    refine L_ (v:=.bool true) (by simp [results,results116,go_sem, *]) rfl ?_
    exact ⟨by rw [HF.out],HB.out⟩
 ·have t1:((n:Int) == m)=false:=aW (by omega)
  have t2:((n:Int) != m)=true:=by unfold bne;rw [t1];rfl
  have HF:Hid (R=false):=hid (by
   rw [←H.out.2.2.2.2.2]
   refine V_ (fun e=>hnm ?_)
   rw [←H.out.2.2.2.1,←H.out.2.2.2.2.1,e])
  clear hnm
  go_enter func116,ntmps116
  go_wp2_with fail
  refine L_ (v:=.bool false) (by simp [results,results116,go_sem, *]) rfl ?_
  exact ⟨by rw [HF.out],J_ _ _⟩
open Classical in
theorem Wt {xs ys:List Ar} (hx:aO oH P w A a xs) (hy:aO oH Q w B b ys)
  (eg:∀args w,(callFunc F args).run prog w=.ok (.enter F args) w)
  (hF:∀i (hi:i<xs.length) (hj:i<ys.length) u v W,Below w.heap.size w W→Zz P W xs[i] u→Zz Q W ys[i] v→Calls prog F #[u,v] W fun r w'=>r=.returned (.bool (decide (xs[i]=ys[i])))∧Below W.heap.size W w') :
  Calls prog 103 #[.slice A xs.length a,.slice B ys.length b,.func (.func F) #[] #[]] w fun r w'=>r=.returned (.bool (decide (xs=ys)))∧Below w.heap.size w w':=by
 obtain ⟨R,hR⟩:=nm_ (decide (xs=ys))
 rw [hR]
 have hxm:=(hx.2 [] (by simp)).1
 have hym:=(hy.2 [] (by simp)).1
 have hxc:=hx.1
 have hyc:=hy.1
 obtain ⟨n,hn⟩:=nm_ xs.length
 obtain ⟨m,hm⟩:=nm_ ys.length
 have H:=hid (⟨hx,hy,hF,hn,hm,hR⟩:_∧_∧_∧_∧_∧_)
 rw [hn] at hxm hxc ⊢
 rw [hm] at hym hyc ⊢
 clear hx hy hn hm hR hF
 by_cases hnm:n=m
 ·subst hnm
  go_enter func103,ntmps103
  go_wp2_with fail
  go_loopg [17] (n+1) (fun q s17 wr=>∃i:Nat,s17=.int .i64 (i:Nat)∧i≤n∧n - i<q∧xs.take i=ys.take i∧Below w.heap.size w wr)
  case atStart=>exact ⟨0,rfl,h_ _,by omega,by simp,J_ _ _⟩
  case round=>
   obtain ⟨i,rfl,hin,hiq,htk,hb⟩:=hrel
   obtain ⟨gk,rfl⟩:=pk_ gk 1 (by omega)
   by_cases hlt:i<n
   ·have hix:i<xs.length:=by rw [H.out.2.2.2.1];exact hlt
    have hiy:i<ys.length:=by rw [H.out.2.2.2.2.1];exact hlt
    obtain ⟨ad,rfl⟩:=fN H.out.1 i hix
    obtain ⟨bd,rfl⟩:=fN H.out.2.1 i hiy
    obtain ⟨uA,uc,c0,c1,c2,c3,c4,hux,hul⟩:=kO (H.out.1.below hb) i hix
    obtain ⟨vA,vc,d0,d1,d2,d3,d4,hvx,hvl⟩:=kO (H.out.2.1.below hb) i hiy
    have HC:=hid (fun W (hW:Below wr.heap.size wr W)=>H.out.2.2.1 i hix hiy _ _ W (hb.trans (hW.mono hb.size)) ⟨uA,uc,rfl,hux.below hW⟩ ⟨vA,vc,rfl,hvx.below hW⟩)
    clear hux hvx
    obtain ⟨q,hq⟩:=nm_ (decide (xs[i]=ys[i]))
    rw [hq] at HC
    have HS:=hid (⟨hix,hiy,hq,htk,hb⟩:∃(h1:i<xs.length) (h2:i<ys.length),decide (xs[i]=ys[i])=q∧xs.take i=ys.take i∧Below w.heap.size w wr)
    obtain ⟨x,hxx⟩:=nm_ (xs[i])
    obtain ⟨y,hyy⟩:=nm_ (ys[i])
    rw [hxx] at HC c0 c1 c2 c3 c4
    rw [hyy] at HC d0 d1 d2 d3 d4
    have hz:(i:Int)<n:=by omega
    have hz0:(0:Int)≤i:=by omega
    clear htk hb hxx hyy hq hix hiy
    go_wp2_with fail
    obtain ⟨w2,hw2,hb2,_⟩:=kP (w:=wr) (cs:=#[.string x.name,.int .i64 x.e.op,.int .i64 x.e.n,.string x.e.name,.slice uA x.e.kids.length uc]) (ds:=#[.string y.name,.int .i64 y.e.op,.int .i64 y.e.n,.string y.e.name,.slice vA y.e.kids.length vc]) (t:=75) (u:=75)
    rw [hw2]
    refine (HC.out w2 hb2).mono ?_
    rintro r w3 ⟨rfl,hb3⟩
    have HB3:=hid (hb2.trans (hb3.mono hb2.size))
    clear hw2 hb2 hb3 c0 c1 c2 c3 c4 d0 d1 d2 d3 d4
    cases q
    ·have HF:Hid (R=false):=hid (by
      obtain ⟨h1,h2,h3,_⟩:=HS.out
      rw [←H.out.2.2.2.2.2]
      exact V_ (pC h1 h2 (of_decide_eq_false h3)))
     have HB:Hid (Below w.heap.size w w3):=hid (by obtain ⟨_,_,_,_,h5⟩:=HS.out;exact h5.trans (HB3.out.mono h5.size))
     go_wp2_with fail
     refine L_ (v:=.bool false) (by simp [results,results103,go_sem, *]) rfl ?_
     exact ⟨by rw [HF.out],HB.out⟩
    ·go_wp2_with fail
     go_roundg gk
     case measure=>omega
     case rel=>
      obtain ⟨h1,h2,h3,h4,h5⟩:=HS.out
      exact ⟨i+1,by go_num,by omega,by omega,gD h1 h2 h4 (of_decide_eq_true h3),h5.trans (HB3.out.mono h5.size)⟩
   ·obtain rfl:i=n:=by omega
    have HF:Hid (R=true):=hid (by
     rw [←H.out.2.2.2.2.2]
     exact W_ (kQ H.out.2.2.2.1 H.out.2.2.2.2.1 htk rfl))
    have HB:=hid hb
    clear hb htk
    go_wp2_with fail
    refine L_ (v:=.bool true) (by simp [results,results103,go_sem, *]) rfl ?_
    exact ⟨by rw [HF.out],HB.out⟩
 ·have t1:((n:Int) == m)=false:=aW (by omega)
  have t2:((n:Int) != m)=true:=by unfold bne;rw [t1];rfl
  have HF:Hid (R=false):=hid (by
   rw [←H.out.2.2.2.2.2]
   refine V_ (fun e=>hnm ?_)
   rw [←H.out.2.2.2.1,←H.out.2.2.2.2.1,e])
  clear hnm
  go_enter func103,ntmps103
  go_wp2_with fail
  refine L_ (v:=.bool false) (by simp [results,results103,go_sem, *]) rfl ?_
  exact ⟨by rw [HF.out],J_ _ _⟩
open Classical in
theorem Wu {xs ys:List Nd} (hx:aO yS P w A a xs) (hy:aO yS Q w B b ys)
  (eg:∀args w,(callFunc F args).run prog w=.ok (.enter F args) w)
  (hF:∀i (hi:i<xs.length) (hj:i<ys.length) u v W,Below w.heap.size w W→AB P W xs[i] u→AB Q W ys[i] v→Calls prog F #[u,v] W fun r w'=>r=.returned (.bool (decide (xs[i]=ys[i])))∧Below W.heap.size W w') :
  Calls prog 70 #[.slice A xs.length a,.slice B ys.length b,.func (.func F) #[] #[]] w fun r w'=>r=.returned (.bool (decide (xs=ys)))∧Below w.heap.size w w':=by
 obtain ⟨R,hR⟩:=nm_ (decide (xs=ys))
 rw [hR]
 have hxm:=(hx.2 [] (by simp)).1
 have hym:=(hy.2 [] (by simp)).1
 have hxc:=hx.1
 have hyc:=hy.1
 obtain ⟨n,hn⟩:=nm_ xs.length
 obtain ⟨m,hm⟩:=nm_ ys.length
 have H:=hid (⟨hx,hy,hF,hn,hm,hR⟩:_∧_∧_∧_∧_∧_)
 rw [hn] at hxm hxc ⊢
 rw [hm] at hym hyc ⊢
 clear hx hy hn hm hR hF
 by_cases hnm:n=m
 ·subst hnm
  go_enter func70,ntmps70
  go_wp2_with fail
  go_loopg [17] (n+1) (fun q s17 wr=>∃i:Nat,s17=.int .i64 (i:Nat)∧i≤n∧n - i<q∧xs.take i=ys.take i∧Below w.heap.size w wr)
  case atStart=>exact ⟨0,rfl,h_ _,by omega,by simp,J_ _ _⟩
  case round=>
   obtain ⟨i,rfl,hin,hiq,htk,hb⟩:=hrel
   obtain ⟨gk,rfl⟩:=pk_ gk 1 (by omega)
   by_cases hlt:i<n
   ·have hix:i<xs.length:=by rw [H.out.2.2.2.1];exact hlt
    have hiy:i<ys.length:=by rw [H.out.2.2.2.2.1];exact hlt
    obtain ⟨ad,rfl⟩:=fN H.out.1 i hix
    obtain ⟨bd,rfl⟩:=fN H.out.2.1 i hiy
    obtain ⟨ukA,ukc,uuA,uuc,ugA,ugc,ueA,uec,⟨c0,c1,c2,c3,c4,c5,c6,c7,c8⟩,hu1,hu2,hu3,hu4,hul⟩:=eG (H.out.1.below hb) i hix
    obtain ⟨vkA,vkc,vuA,vuc,vgA,vgc,veA,vec,⟨d0,d1,d2,d3,d4,d5,d6,d7,d8⟩,hv1,hv2,hv3,hv4,hvl⟩:=eG (H.out.2.1.below hb) i hiy
    have HC:=hid (fun W (hW:Below wr.heap.size wr W)=>H.out.2.2.1 i hix hiy _ _ W (hb.trans (hW.mono hb.size)) ⟨_,_,_,_,_,_,_,_,rfl,Qp.below ⟨hu1,hu2,hu3,hu4⟩ hW⟩ ⟨_,_,_,_,_,_,_,_,rfl,Qp.below ⟨hv1,hv2,hv3,hv4⟩ hW⟩)
    clear hu1 hu2 hu3 hu4 hv1 hv2 hv3 hv4
    obtain ⟨q,hq⟩:=nm_ (decide (xs[i]=ys[i]))
    rw [hq] at HC
    have HS:=hid (⟨hix,hiy,hq,htk,hb⟩:∃(h1:i<xs.length) (h2:i<ys.length),decide (xs[i]=ys[i])=q∧xs.take i=ys.take i∧Below w.heap.size w wr)
    obtain ⟨x,hxx⟩:=nm_ (xs[i])
    obtain ⟨y,hyy⟩:=nm_ (ys[i])
    rw [hxx] at HC c0 c1 c2 c3 c4 c5 c6 c7 c8
    rw [hyy] at HC d0 d1 d2 d3 d4 d5 d6 d7 d8
    have hz:(i:Int)<n:=by omega
    have hz0:(0:Int)≤i:=by omega
    clear htk hb hxx hyy hq hix hiy
    go_wp2_with fail
    obtain ⟨w2,hw2,hb2,_⟩:=kP (w:=wr) (cs:=#[.int .i64 x.kind,.slice ukA x.kids.length ukc,.slice uuA x.units.length uuc,.string x.name,.slice ugA x.args.length ugc,.int .i64 x.e.op,.int .i64 x.e.n,.string x.e.name,.slice ueA x.e.kids.length uec]) (ds:=#[.int .i64 y.kind,.slice vkA y.kids.length vkc,.slice vuA y.units.length vuc,.string y.name,.slice vgA y.args.length vgc,.int .i64 y.e.op,.int .i64 y.e.n,.string y.e.name,.slice veA y.e.kids.length vec]) (t:=43) (u:=43)
    rw [hw2]
    refine (HC.out w2 hb2).mono ?_
    rintro r w3 ⟨rfl,hb3⟩
    have HB3:=hid (hb2.trans (hb3.mono hb2.size))
    clear hw2 hb2 hb3 c0 c1 c2 c3 c4 c5 c6 c7 c8 d0 d1 d2 d3 d4 d5 d6 d7 d8
    cases q
    ·have HF:Hid (R=false):=hid (by
      obtain ⟨h1,h2,h3,_⟩:=HS.out
      rw [←H.out.2.2.2.2.2]
      exact V_ (pC h1 h2 (of_decide_eq_false h3)))
     have HB:Hid (Below w.heap.size w w3):=hid (by obtain ⟨_,_,_,_,h5⟩:=HS.out;exact h5.trans (HB3.out.mono h5.size))
     go_wp2_with fail
     refine L_ (v:=.bool false) (by simp [results,results70,go_sem, *]) rfl ?_
     exact ⟨by rw [HF.out],HB.out⟩
    ·go_wp2_with fail
     go_roundg gk
     case measure=>omega
     case rel=>
      obtain ⟨h1,h2,h3,h4,h5⟩:=HS.out
      exact ⟨i+1,by go_num,by omega,by omega,gD h1 h2 h4 (of_decide_eq_true h3),h5.trans (HB3.out.mono h5.size)⟩
   ·obtain rfl:i=n:=by omega
    have HF:Hid (R=true):=hid (by
     rw [←H.out.2.2.2.2.2]
     exact W_ (kQ H.out.2.2.2.1 H.out.2.2.2.2.1 htk rfl))
    have HB:=hid hb
    clear hb htk
    go_wp2_with fail
    refine L_ (v:=.bool true) (by simp [results,results70,go_sem, *]) rfl ?_
    exact ⟨by rw [HF.out],HB.out⟩
 ·have t1:((n:Int) == m)=false:=aW (by omega)
  have t2:((n:Int) != m)=true:=by unfold bne;rw [t1];rfl
  have HF:Hid (R=false):=hid (by
   rw [←H.out.2.2.2.2.2]
   refine V_ (fun e=>hnm ?_)
   rw [←H.out.2.2.2.1,←H.out.2.2.2.2.1,e])
  clear hnm
  go_enter func70,ntmps70
  go_wp2_with fail
  refine L_ (v:=.bool false) (by simp [results,results70,go_sem, *]) rfl ?_
  exact ⟨by rw [HF.out],J_ _ _⟩
end Go.Proofs.YtgcfjkfipkfijaaGreatDoor
namespace Go.Proofs.YtgcfjkfipkfijaaGreatDoor
open Go Go.RowKit Go.Lib _root_.Go.Proofs.Tryz
theorem lQ {w:World} {k:Nat} {v0 v1 v2 v3:Value} {t:TypeId} (h:w.heap[k]? = some (.cells #[v0,v1,v2,v3] t (0,0))) :
  w.cell? ⟨k,0,none⟩=some v0∧w.cell? ⟨k,1,none⟩=some v1∧w.cell? ⟨k,2,none⟩=some v2∧w.cell? ⟨k,3,none⟩=some v3:=⟨aB h 0,aB h 1,aB h 2,aB h 3⟩
theorem jB {x y:ByteArray} (h:x≠y):(x.data.toList == y.data.toList)=false∧(x.toList == y.toList)=false:=by
 rw [Lib.toList_data,Lib.toList_data,and_self,beq_eq_false_iff_ne]
 exact fun e=>h (ByteArray.ext (Array.toList_inj.1 e))
theorem kH {α:Type} [BEq α] {a b:α} (h:(a == b)=false):(a != b)=true:=by unfold bne;rw [h];rfl
theorem Cn (args W):(callFunc 100 args).run prog W=.ok (.enter 100 args) W:=enters_of func100 (by kernel_rfl) rfl args W
open Classical in
theorem Is {P Q:Nat→Prop} (o n:Int) (nm:ByteArray) (ks:List Ex) (o' n':Int) (nm':ByteArray) (ks':List Ex) (A:Option Addr) (c:Nat) (B:Option Addr) (d:Nat) (w:World) (ha:cR P w (.mk o n nm ks) A c) (hb:cR Q w (.mk o' n' nm' ks') B d)
  (ih:∀i (hi:i<ks.length) (hj:i<ks'.length) A' c' B' d' W,cR P W ks[i] A' c'→cR Q W ks'[i] B' d'→Calls prog 100 #[eJ ks[i] A' c',eJ ks'[i] B' d'] W fun r w'=>r=.returned (.bool (decide (ks[i]=ks'[i])))∧Below W.heap.size W w') :
  Calls prog 100 #[.agg #[.int .i64 o,.int .i64 n,.string nm,.slice A ks.length c],.agg #[.int .i64 o',.int .i64 n',.string nm',.slice B ks'.length d]] w fun r w'=>r=.returned (.bool (decide (Ex.mk o n nm ks=.mk o' n' nm' ks')))∧Below w.heap.size w w':=by
 have hra:aO gU P w A c ks:=⟨ha.1,ha.2⟩
 have hrb:aO gU Q w B d ks':=⟨hb.1,hb.2⟩
 have HE:Hid (∀W,Below w.heap.size w W→Calls prog 116 #[.slice A ks.length c,.slice B ks'.length d,.func (.func 100) #[] #[]] W fun r w'=>r=.returned (.bool (decide (ks=ks')))∧Below W.heap.size W w'):=
  hid (fun W hW=>Ws (hra.below hW) (hrb.below hW) Cn (fun i hi hj u v W' hW' hu hv=>by
   obtain ⟨A',c',rfl,hx⟩:=hu
   obtain ⟨B',d',rfl,hy⟩:=hv
   exact ih i hi hj A' c' B' d' W' hx hy))
 obtain ⟨q,hq⟩:=nm_ (decide (ks=ks'))
 rw [hq] at HE
 obtain ⟨R,hR⟩:=nm_ (decide (Ex.mk o n nm ks=.mk o' n' nm' ks'))
 rw [hR]
 obtain ⟨w0,hw0⟩:=nm_ ((w.alloc (.cells #[.int .i64 o,.int .i64 n,.string nm,.slice A ks.length c] 41)).alloc (.cells #[.int .i64 o',.int .i64 n',.string nm',.slice B ks'.length d] 41))
 have hal:Below w.heap.size w w0:=hw0▸((J_ _ _).alloc le_ _).alloc (by simp) _
 have hx:w0.heap[w.heap.size]? = some (.cells #[.int .i64 o,.int .i64 n,.string nm,.slice A ks.length c] 41 (0,0)):=hw0▸(Below.heap_alloc _ _ _ (by simp)).trans (I_ _ _)
 have hy:w0.heap[w.heap.size+1]? = some (.cells #[.int .i64 o',.int .i64 n',.string nm',.slice B ks'.length d] 41 (0,0)):=by
  have h:=I_ (w.alloc (.cells #[.int .i64 o,.int .i64 n,.string nm,.slice A ks.length c] 41)) (.cells #[.int .i64 o',.int .i64 n',.string nm',.slice B ks'.length d] 41)
  rw [hw0] at h
  simpa using h
 obtain ⟨x0,x1,x2,x3⟩:=lQ hx
 obtain ⟨y0,y1,y2,y3⟩:=lQ hy
 have hlx:=aC hx
 have hly:=aC hy
 have HW0:=hid hw0
 have HAL:=hid hal
 have HR:=hj_ hq hR
 clear ha hb ih hra hrb hx hy hw0 hal hq hR
 by_cases he:o=o'∧n=n'∧nm=nm'
 ·obtain ⟨rfl,rfl,rfl⟩:=he
  have HQ:Hid (R=q):=hid (by rw [←HR.out.1,←HR.out.2];simp)
  go_enter func100,ntmps100
  go_wp2_with fail
  rw [HW0.out]
  refine (HE.out _ HAL.out).mono ?_
  rintro r w5 ⟨rfl,hb5⟩
  have HB5:=tm_ HAL hb5
  clear hb5
  go_wp2_with fail
  go_ret
  exact ⟨by rw [HQ.out];rfl,HB5.out⟩
 ·have HQ:Hid (R=false):=hid (by rw [←HR.out.2];exact V_ (fun e=>he (by injection e with e1 e2 e3;exact ⟨e1,e2,e3⟩)))
  have key:(o == o')=false∨o=o'∧((n == n')=false∨n=n'∧((nm.data.toList == nm'.data.toList)=false∧(nm.toList == nm'.toList)=false)):=by
   by_cases e1:o=o'
   ·refine .inr ⟨e1,?_⟩
    by_cases e2:n=n'
    ·exact .inr ⟨e2,jB (fun e3=>he ⟨e1,e2,e3⟩)⟩
    ·exact .inl (aW e2)
   ·exact .inl (aW e1)
  rcases key with t1 | ⟨rfl,t1 | ⟨rfl,t1,t3⟩⟩
  all_goals
   clear he
   go_enter func100,ntmps100
   go_wp2_with fail
   rw [HW0.out]
   go_ret
   exact ⟨by rw [HQ.out];rfl,HAL.out⟩
open Classical in
theorem It (N:Nat):∀{P Q:Nat→Prop} (e f:Ex) (A:Option Addr) (c:Nat) (B:Option Addr) (d:Nat) (w:World),SizeOf.sizeOf e<N→cR P w e A c→cR Q w f B d →
  Calls prog 100 #[eJ e A c,eJ f B d] w fun r w'=>r=.returned (.bool (decide (e=f)))∧Below w.heap.size w w':=by
 induction N with
 | zero=>intro P Q e f A c B d w h;omega
 | succ N ih=>
  intro P Q e f A c B d w hN ha hb
  obtain ⟨o,n,nm,ks⟩:=e
  obtain ⟨o',n',nm',ks'⟩:=f
  refine Is o n nm ks o' n' nm' ks' A c B d w ha hb (fun i hi hj A' c' B' d' W h1 h2=>ih _ _ A' c' B' d' W ?_ h1 h2)
  have h1:SizeOf.sizeOf ks[i]<SizeOf.sizeOf ks:=List.sizeOf_lt_of_mem (g_ hi)
  simp at hN
  omega
open Classical in
theorem Ac {P Q:Nat→Prop} (e f:Ex) (A:Option Addr) (c:Nat) (B:Option Addr) (d:Nat) (w:World) (ha:cR P w e A c) (hb:cR Q w f B d) :
  Calls prog 100 #[eJ e A c,eJ f B d] w fun r w'=>r=.returned (.bool (decide (e=f)))∧Below w.heap.size w w':=It _ e f A c B d w (o_ _) ha hb
end Go.Proofs.YtgcfjkfipkfijaaGreatDoor
