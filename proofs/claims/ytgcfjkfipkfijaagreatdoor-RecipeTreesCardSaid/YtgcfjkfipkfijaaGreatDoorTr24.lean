/- Part 24 of the proof of rtrees_card; no conditions. -/
import Derived.Test.YtgcfjkfipkfijaaGreatDoorTr01
import Derived.Test.YtgcfjkfipkfijaaGreatDoorTr16
import Derived.Test.YtgcfjkfipkfijaaGreatDoorTr23
import Derived.Deep.DeepCutAuto
import Derived.Deep.CutBlock
import Derived.ChangeAlike
import Derived.RegionTactic
set_option maxRecDepth 100000
set_option maxHeartbeats 8000000
namespace Go.Proofs.YtgcfjkfipkfijaaGreatDoor
open Go Go.RowKit Go.Lib _root_.Go.Proofs.Tryz
variable {α : Type} {l : List α} {p : α → Prop}
theorem cC {w:World} {k:Nat} {v0 v1 v2 v3:Value} {t:TypeId} (h:w.heap[k]? = some (.cells #[v0,v1,v2,v3] t (0,0))) :
  (w.cell? ⟨k,0,none⟩=some v0∧w.cell? ⟨k,1,none⟩=some v1∧w.cell? ⟨k,2,none⟩=some v2∧w.cell? ⟨k,3,none⟩=some v3)∧True:=
 ⟨⟨aB h 0,aB h 1,aB h 2,aB h 3⟩,trivial⟩
structure Wx (x:Nd):Prop where
 name:x.name.size≤140737488355328
 unit:∀u,u∈x.units→u.size≤140737488355328
 arg:∀a,a∈x.args→a.name.size≤140737488355328∧dU a.e
 ex:dU x.e
structure Sv (r:tL):Prop where
 name:r.name.size≤140737488355328
 prm:∀p,p∈r.params→p.name.size≤140737488355328∧oT p.n
 nd:∀x,x∈r.nodes→Wx x
def BK (x:Nd):Prop:=x.name.size≤200∧x.units.length≤50∧(∀u,u∈x.units→u.size≤200)∧∀a,a∈x.args→a.name.size≤200
theorem Zb {x} (h:Wx x) (k:BK x):qI x:=
 ⟨d_ k.1 (by decide),d_ k.2.1 (by decide),fun u hu=>d_ (k.2.2.1 u hu) (by decide),fun a ha=>⟨d_ (k.2.2.2 a ha) (by decide),(h.arg a ha).2⟩,h.ex⟩
theorem sS {i:Nat} (h:∀x,x∈l.take i→p x) (hi:i<l.length) (hx:p l[i]):∀x,x∈l.take (i+1)→p x:=fun x hm=>by
 rw [Z_ hi,List.mem_append] at hm
 rcases hm with hm | hm
 ·exact h x hm
 ·simp at hm;rw [hm];exact hx
theorem pZ (h:∀x,x∈l.take l.length→p x):∀x,x∈l→p x:=by rwa [List.take_length] at h
inductive Jb:Ex→Prop where
 | mk {op n:Int} {nm:ByteArray} {ks:List Ex} (h1:nm.size≤200) (h2:∀k,k∈ks→Jb k):Jb (.mk op n nm ks)
theorem Jb.name {e} (h:Jb e):e.name.size≤200:=by cases h;assumption
theorem Jb.kids {e} (h:Jb e):∀k,k∈e.kids→Jb k:=by cases h;assumption
def Cp (e:Ex) (w:World) (r:Ending) (w':World):Prop:=∃z:Int,r=.returned (.int .i64 z)∧0≤z∧z≤400∧Below w.heap.size w w'∧(0<z→Jb e)
theorem Cq (o n nm ks A c most w) (hm0:0≤most) (hm:most≤400) (hnm:nm.size≤140737488355328) (ha:gU.Row [] w A ks) (hc:ks.length≤c) (ih:∀i (hi:i<ks.length) (A':Option Addr) (c':Nat) (m:Int) (W:World),0≤m→m≤400→gU.Row [] W A' ks[i].kids→ks[i].kids.length≤c'→Calls prog 40 #[eJ ks[i] A' c',.int .i64 m] W (Cp ks[i] W)) :
  Calls prog 40 #[.agg #[.int .i64 o,.int .i64 n,.string nm,.slice A ks.length c],.int .i64 most] w (Cp (.mk o n nm ks) w):=by
 have HA:=hid ha
 have HI:=hid ih
 have hmax:=ha.1
 have hzm:(ks.length:Int)≤9223372036854775807:=by omega
 obtain ⟨w0,hw0,hal,_⟩:=alo_ w (.cells #[.int .i64 o,.int .i64 n,.string nm,.slice A ks.length c] 41)
 have hx:w0.heap[w.heap.size]? = some (.cells #[.int .i64 o,.int .i64 n,.string nm,.slice A ks.length c] 41 (0,0)):=hw0▸I_ _ _
 have HW0:=hid hw0
 have HX:=hid hx
 have HAL:=hid hal
 obtain ⟨⟨x0,x1,x2,x3⟩,_⟩:=cC hx
 clear ha ih hx hw0 hal
 by_cases h1:most<ks.length
 ·go_enter func40,ntmps40
  go_wp2_with fail
  go_ret
  exact ⟨0,rfl,by decide,by decide,by first | exact HAL.out | exact HW0.out▸HAL.out,fun h=>absurd h (by decide)⟩
 have h1':(ks.length:Int)≤most:=by omega
 by_cases h2:200<nm.size
 ·have h2':(200:Int)<nm.size:=by omega
  clear h1 h2
  go_enter func40,ntmps40
  go_wp2_with fail
  go_ret
  exact ⟨0,rfl,by decide,by decide,by first | exact HAL.out | exact HW0.out▸HAL.out,fun h=>absurd h (by decide)⟩
 have h2':(nm.size:Int)≤200:=by omega
 clear h1 h2
 go_enter func40,ntmps40
 go_wp2_with fail
 rw [HW0.out]
 go_loopg [1,5] (ks.length+1) (fun k s1 s5 w'=>∃(j:Nat) (m:Int),s5=.int .i64 j∧s1=.int .i64 m∧j≤ks.length∧ks.length - j<k∧-1≤m∧m≤400∧Below w0.heap.size w0 w'∧(0<m→∀i (h:i<ks.length),i<j→Jb ks[i]))
 case atStart=>exact ⟨0,_,rfl,rfl,by omega,by omega,by omega,by omega,J_ _ _,fun _ i _ h=>absurd h (by omega)⟩
 case round=>
  obtain ⟨j,m,rfl,rfl,hj,hjk,hm1,hm2,hbw,hns⟩:=hrel
  obtain ⟨gk,rfl⟩:=pk_ gk 1 (by omega)
  have HBW:=hid hbw
  have HNS:=hid hns
  clear hns
  have HXr:=bl_ hbw HX
  clear x0 x1 x2 x3 hbw
  obtain ⟨⟨x0,x1,x2,x3⟩,_⟩:=cC HXr.out
  have hz0:(0:Int)≤j:=by omega
  by_cases hlt:j<ks.length
  ·have hz:(j:Int)<ks.length:=by omega
   by_cases hpos:0<m
   ·obtain ⟨ad,rfl⟩:=fE HA.out (by omega)
    have hS:Same [] w wr:=Same.of_below (HAL.out.trans (HBW.out.mono HAL.out.size))
    obtain ⟨A',c',p0,p1,p2,p3,yO,prow,_⟩:=rT (HA.out.keep hS) j hlt
    have HCALL:=hid (HI.out j hlt A' c' m wr (by omega) hm2 prow yO)
    obtain ⟨k0,hk0⟩:=nm_ (ks[j])
    have HK0:=hid hk0
    rw [hk0] at HCALL p0 p1 p2 p3
    have hzc:(j:Int)<c:=by omega
    clear prow yO hk0 hS
    go_wp2_with fail
    refine HCALL.out.mono ?_
    rintro r w5 ⟨z,rfl,hz1,hz2,hb5,hn5⟩
    rw [←HK0.out] at hn5
    have HN5:=hid hn5
    clear hn5
    have HB5:=hid hb5
    clear hb5
    go_wp2_with fail
    go_roundg gk
    case measure=>omega
    case rel=>exact ⟨j+1,z,by go_num,rfl,by omega,by omega,by omega,by omega,HBW.out.trans (HB5.out.mono HBW.out.size),fun h i hi hij=>if e:i=j then by subst e;exact HN5.out h else HNS.out hpos i hi (by omega)⟩
   ·have hpos':m≤0:=by omega
    by_cases hneg:m<0
    ·go_wp2_with fail
     go_ret
     exact ⟨0,rfl,by decide,by decide,HAL.out.trans (HBW.out.mono HAL.out.size),fun h=>absurd h (by decide)⟩
    ·have hneg':0≤m:=by omega
     go_wp2_with fail
     go_ret
     exact ⟨m,rfl,by omega,by omega,HAL.out.trans (HBW.out.mono HAL.out.size),fun h=>absurd h (by omega)⟩
  ·have hz:(ks.length:Int)≤j:=by omega
   by_cases hneg:m<0
   ·go_wp2_with fail
    go_ret
    exact ⟨0,rfl,by decide,by decide,HAL.out.trans (HBW.out.mono HAL.out.size),fun h=>absurd h (by decide)⟩
   ·have hneg':0≤m:=by omega
    go_wp2_with fail
    go_ret
    exact ⟨m,rfl,by omega,by omega,HAL.out.trans (HBW.out.mono HAL.out.size),fun h=>.mk (by omega) (fun k hk=>by
     obtain ⟨i,hi,rfl⟩:=List.getElem_of_mem hk
     exact HNS.out h i hi (by omega))⟩
theorem uO (N):∀(e:Ex) (A:Option Addr) (c:Nat) (most:Int) (w:World),SizeOf.sizeOf e<N→0≤most→most≤400→dU e→gU.Row [] w A e.kids→e.kids.length≤c →
  Calls prog 40 #[eJ e A c,.int .i64 most] w (Cp e w):=by
 induction N with
 | zero=>intro e A c most w h;omega
 | succ N ih=>
  intro e A c most w hN hm0 hm hk ha hc
  obtain ⟨o,n,nm,ks⟩:=e
  refine Cq o n nm ks A c most w hm0 hm hk.name ha hc (fun i hi A' c' m W h0 h4 h1 h2=>ih _ A' c' m W ?_ h0 h4 (hk.kids _ (g_ hi)) h1 h2)
  have h1:SizeOf.sizeOf ks[i]<SizeOf.sizeOf ks:=List.sizeOf_lt_of_mem (g_ hi)
  simp at hN
  omega
def fH (n len:Int) (nd:Int→Int→List UInt8 × Int):List Int→List UInt8→Int→List UInt8 × Int
 | [],s,left=>(s,left)
 | k::ks,s,left=>if left - 1<0∨k≤n∨len≤k then ([],-1) else if (nd k (left - 1)).2<0 then ([],-1) else fH n len nd ks (s++(nd k (left - 1)).1) (nd k (left - 1)).2
def uP (x:Nd):List UInt8:=
 if x.kind=1 then [112,97,114] else if x.kind=2 then [117,110,105,116,32]++Lib.join ((x.units.take 6).map jZ) [44,32] else [115,101,113]
def pD (x:Nd) (n len left:Int):Prop:=x.kids.length≠2∨left<2∨k0 x≤n∨k1 x≤n∨len≤k0 x∨len≤k1 x
instance (x:Nd) (n len left:Int):Decidable (pD x n len left):=by unfold pD;infer_instance
def Ae (l:List Nd) (x:Nd) (ind b:List UInt8):List UInt8:=if (cE l (k1 x)).kids=[] then [] else ind++[125,32,101,108,115,101,32,123,10]++b
def nY (l:List Nd) (K:Int→List UInt8→Int→List UInt8 × Int) (x:Nd) (n:Int) (ind:List UInt8) (left:Int):List UInt8 × Int:=
 if pD x n l.length left then ([],-1)
 else if (K (k0 x) (ind++[32,32]) (left - 2)).2<0 then ([],-1)
 else (Hj x ind++(K (k0 x) (ind++[32,32]) (left - 2)).1++Ae l x ind (K (k1 x) (ind++[32,32]) (K (k0 x) (ind++[32,32]) (left - 2)).2).1++ind++[125,10],(K (k1 x) (ind++[32,32]) (K (k0 x) (ind++[32,32]) (left - 2)).2).2)
def bL (l:List Nd) (nd:Int→List UInt8→Int→List UInt8 × Int) (k:Int) (ind:List UInt8) (left:Int):List UInt8 × Int:=fH k l.length (fun j L=>nd j ind L) (cE l k).kids [] left
def On (l:List Nd) (K:Int→List UInt8→Int→List UInt8 × Int) (k:Int) (ind:List UInt8) (left:Int):List UInt8 × Int:=
 if (cE l k).kind=3 then (mK (cE l k) ind,left)
 else if (cE l k).kind=4 then nY l K (cE l k) k ind left
 else (ind++uP (cE l k)++[32,123,10]++(K k (ind++[32,32]) left).1++ind++[125,10],(K k (ind++[32,32]) left).2)
def eK (l:List Nd):Nat→Int→List UInt8→Int→List UInt8 × Int
 | 0,_,_,left=>([],left)
 | f+1,k,ind,left=>On l (bL l (eK l f)) k ind left
def iS (r:tL):List UInt8 × Bool:=
 if 4<r.params.length∨r.nodes.length<1∨24<r.nodes.length then ([],false)
 else (gN r++dA r.params++[123,10]++(bL r.nodes (eK r.nodes 24) 0 [32,32] r.nodes.length).1++[125,10],decide (0≤(bL r.nodes (eK r.nodes 24) 0 [32,32] r.nodes.length).2))
def Yk (out:List UInt8) (s:WS) (t:List UInt8 × Int):Prop:=(0≤t.2→s=⟨out++t.1,t.2,false⟩)∧(t.2<0→s.bad=true)
theorem Af {n len nd}:∀(ks:List Int) (s:WS),s.bad=true→(kK n len nd ks s).bad=true
 | [],s,h=>h
 | k::ks,s,h=>by rw [kK,M_ (.inr (.inr (.inr h)))]
theorem tZ {n len nd nd'} (hnd:∀k out L,0≤L→Yk out (nd k ⟨out,L,false⟩) (nd' k L)):∀(ks:List Int) (out s0:List UInt8) (L:Int),0≤L→Yk out (kK n len nd ks ⟨out++s0,L,false⟩) (fH n len nd' ks s0 L)
 | [],out,s0,L,hL=>⟨fun _=>rfl,fun h=>absurd h (by simp only [fH];omega)⟩
 | k::ks,out,s0,L,hL=>by
  rw [kK,fH]
  by_cases hc:L - 1<0∨k≤n∨len≤k
  ·rw [M_ hc,M_ (by rcases hc with h | h | h;exact .inr (.inr (.inl h));exact .inl h;exact .inr (.inl h))]
   exact ⟨fun h=>absurd h (by decide),fun _=>rfl⟩
  ·rw [K_ hc,K_ (by rintro (h | h | h | h);exact hc (.inr (.inl h));exact hc (.inr (.inr h));exact hc (.inl h);exact absurd h (by simp))]
   have h1:=hnd k (out++s0) (L - 1) (by omega)
   by_cases ht:(nd' k (L - 1)).2<0
   ·rw [M_ ht]
    exact ⟨fun h=>absurd h (by decide),fun _=>Af ks _ (h1.2 ht)⟩
   ·rw [K_ ht,h1.1 (by omega),p_]
    exact tZ hnd ks out _ _ (by omega)
theorem Oo {l K} (hK:∀k ind s,s.bad=true→(K k ind s).bad=true) (x ind s) (h:s.bad=true):(oJ l K x ind s).bad=true:=by
 unfold oJ
 split
 ·exact h
 ·exact hK _ _ _ h
theorem Wy {l K K'} (hu:∀k,(cE l k).units.length≤6) (hb:∀k ind s,s.bad=true→(K k ind s).bad=true) (hK:∀k ind out L,0≤L→Yk out (K k ind ⟨out,L,false⟩) (K' k ind L)) (hK0:∀k ind L,(cE l k).kids=[]→K' k ind L=([],L)) (k ind out L) (hL:0≤L) :
  Yk out (Er l K k ind ⟨out,L,false⟩) (On l K' k ind L):=by
 unfold Er On
 have hh:uP (cE l k)=oI (cE l k):=by unfold uP oI;rw [List.take_of_length_le (hu k)]
 obtain ⟨x,hx⟩:=nm_ (cE l k)
 rw [hx] at hh ⊢
 rw [hh]
 by_cases h3:x.kind=3
 ·rw [M_ h3,K_ (by omega),M_ h3]
  exact ⟨fun _=>rfl,fun h=>absurd h (by show ¬L<0;omega)⟩
 ·simp only [K_ h3]
  by_cases h4:x.kind=4
  ·simp only [M_ h4]
   unfold pW nY
   by_cases hc:pD x k l.length L
   ·rw [M_ hc,M_ (by
     unfold fJ
     rcases hc with h | h | h | h | h | h
     ·exact .inl h
     ·exact .inr (.inr (.inr (.inr (by simp only;omega))))
     ·exact .inr (.inl h)
     ·exact .inr (.inr (.inl h))
     ·exact .inr (.inr (.inr (.inl (by omega))))
     ·exact .inr (.inr (.inr (.inl (by omega)))))]
    exact ⟨fun h=>absurd h (by decide),fun _=>rfl⟩
   ·rw [K_ hc,K_ (by
     rintro (h | h | h | h | h)
     ·exact hc (.inl h)
     ·exact hc (.inr (.inr (.inl h)))
     ·exact hc (.inr (.inr (.inr (.inl h))))
     ·have:(l.length:Int)≤k0 x∨(l.length:Int)≤k1 x:=by omega
      exact hc (.inr (.inr (.inr (.inr this))))
     ·exact hc (.inr (.inl (by simp only at h;omega))))]
    have hL2:0≤L - 2:=by
     have:¬L<2:=fun h=>hc (.inr (.inl h))
     omega
    have h1:=hK (k0 x) (ind++[32,32]) (out++Hj x ind) (L - 2) hL2
    obtain ⟨a,ha⟩:=nm_ (K' (k0 x) (ind++[32,32]) (L - 2))
    rw [ha] at h1 ⊢
    show Yk out (dP (ind++[125,10]) (oJ l K x ind (K (k0 x) (ind++[32,32]) ⟨out++Hj x ind,L - 2,false⟩))) _
    by_cases ha0:a.2<0
    ·rw [M_ ha0]
     exact ⟨fun h=>absurd h (by decide),fun _=>Oo hb x ind _ (h1.2 ha0)⟩
    ·rw [K_ ha0,h1.1 (by omega)]
     unfold oJ Ae
     by_cases he:(cE l (k1 x)).kids=[]
     ·rw [M_ he,M_ he,hK0 _ _ _ he]
      exact ⟨fun _=>by simp [dP],fun h=>absurd h ha0⟩
     ·rw [K_ he,K_ he]
      have h2:=hK (k1 x) (ind++[32,32]) (out++Hj x ind++a.1++(ind++[125,32,101,108,115,101,32,123,10])) a.2 (by omega)
      obtain ⟨b,hbb⟩:=nm_ (K' (k1 x) (ind++[32,32]) a.2)
      rw [hbb] at h2 ⊢
      show Yk out (dP (ind++[125,10]) (K (k1 x) (ind++[32,32]) ⟨out++Hj x ind++a.1++(ind++[125,32,101,108,115,101,32,123,10]),a.2,false⟩)) _
      refine ⟨fun h=>?_,fun h=>h2.2 h⟩
      rw [h2.1 h]
      simp [dP]
  ·simp only [K_ h4]
   have h1:=hK k (ind++[32,32]) (out++(ind++oI x++[32,123,10])) L hL
   obtain ⟨a,ha⟩:=nm_ (K' k (ind++[32,32]) L)
   rw [ha] at h1 ⊢
   show Yk out (dP (ind++[125,10]) (K k (ind++[32,32]) ⟨out++(ind++oI x++[32,123,10]),L,false⟩)) _
   refine ⟨fun h=>?_,fun h=>h1.2 h⟩
   rw [h1.1 h]
   simp [dP]
theorem Fe {l} (hu:∀k,(cE l k).units.length≤6):∀(f:Nat),(∀k ind out L,0≤L→Yk out (bY l f k ind ⟨out,L,false⟩) (eK l f k ind L))
 | 0,k,ind,out,L,hL=>⟨fun _=>by simp [bY,eK],fun h=>absurd h (by simp only [eK];omega)⟩
 | f+1,k,ind,out,L,hL=>by
  rw [bY,eK]
  refine Wy hu (fun k ind s h=>Af _ s h) (fun k ind out L hL=>?_) (fun k ind L h=>?_) k ind out L hL
  ·have:=tZ (n:=k) (len:=l.length) (nd:=fun j=>bY l f j ind) (nd':=fun j L=>eK l f j ind L) (fun j out L hL=>Fe hu f j ind out L hL) (cE l k).kids out [] L hL
   rw [List.append_nil] at this
   exact this
  ·unfold bL;rw [h];rfl
theorem Ag {r} (hu:∀x,x∈r.nodes→x.units.length≤6):(iS r).2=(fF r).2∧((fF r).2=true→(iS r).1=(fF r).1):=by
 have hu':∀k,(cE r.nodes k).units.length≤6:=fun k=>by
  unfold cE
  rw [S_]
  cases hh:r.nodes[k.toNat]? with
  | none=>exact h_ _
  | some x=>exact hu x (List.mem_of_getElem? hh)
 unfold iS fF
 by_cases hc:4<r.params.length∨r.nodes.length<1∨24<r.nodes.length
 ·rw [M_ hc,M_ hc];exact ⟨rfl,fun h=>absurd h (by decide)⟩
 ·rw [K_ hc,K_ hc]
  have h:=tZ (n:=0) (len:=r.nodes.length) (nd:=fun j=>bY r.nodes 24 j [32,32]) (nd':=fun j L=>eK r.nodes 24 j [32,32] L) (fun j out L hL=>Fe hu' 24 j _ out L hL) (cE r.nodes 0).kids (gN r++dA r.params++[123,10]) [] r.nodes.length (by omega)
  rw [List.append_nil] at h
  have hW:Lq r=dP [125,10] (kK 0 r.nodes.length (fun j=>bY r.nodes 24 j [32,32]) (cE r.nodes 0).kids ⟨gN r++dA r.params++[123,10],r.nodes.length,false⟩):=rfl
  have hX:bL r.nodes (eK r.nodes 24) 0 [32,32] r.nodes.length=fH 0 r.nodes.length (fun j L=>eK r.nodes 24 j [32,32] L) (cE r.nodes 0).kids [] r.nodes.length:=rfl
  rw [hW,hX]
  obtain ⟨t,ht⟩:=nm_ (fH 0 r.nodes.length (fun j L=>eK r.nodes 24 j [32,32] L) (cE r.nodes 0).kids [] r.nodes.length)
  rw [ht] at h ⊢
  by_cases h0:0≤t.2
  ·rw [h.1 h0]
   exact ⟨by simp [dP,h0],fun _=>by simp [dP]⟩
  ·have hb:=h.2 (by omega)
   have e:(dP [125,10] (kK 0 r.nodes.length (fun j=>bY r.nodes 24 j [32,32]) (cE r.nodes 0).kids ⟨gN r++dA r.params++[123,10],r.nodes.length,false⟩)).bad=true:=hb
   simp only [e]
   exact ⟨by simp [h0],fun h=>absurd h (by decide)⟩
def pz (x:Int):Int:=if 0≤x then x else 0
theorem rK {x} (h:0≤x):pz x=x:=M_ h
theorem Zc {x} (h:x<0):pz x=0:=K_ (by omega)
theorem Ah (x):0≤pz x:=by unfold pz;split <;> omega
def Jc (a L:Int) (t:List UInt8 × Int):Prop:=(t.1.length:Int)+8589934592*pz t.2≤a+8589934592*L∧t.2≤L∧-1≤t.2
theorem vM {a L} (ha:0≤a) (hL:0≤L):Jc a L ([],-1):=⟨by show (0:Int)+8589934592*pz (-1)≤_;rw [Zc (by decide)];omega,by show (-1:Int)≤L;omega,by decide⟩
theorem nZ {n len nd} (hnd:∀k L,0≤L→Jc 8589934592 L (nd k L)):∀(ks:List Int) (s:List UInt8) (L:Int),0≤L→Jc s.length L (fH n len nd ks s L)
 | [],s,L,hL=>⟨by show (s.length:Int)+8589934592*pz L≤_;rw [rK hL];omega,by show L≤L;omega,by show -1≤L;omega⟩
 | k::ks,s,L,hL=>by
  rw [fH]
  by_cases hc:L - 1<0∨k≤n∨len≤k
  ·rw [M_ hc];exact vM (by omega) hL
  ·rw [K_ hc]
   have h1:=hnd k (L - 1) (by omega)
   obtain ⟨t,ht⟩:=nm_ (nd k (L - 1))
   rw [ht] at h1 ⊢
   by_cases h0:t.2<0
   ·rw [M_ h0];exact vM (by omega) hL
   ·rw [K_ h0]
    obtain ⟨a1,a2,a3⟩:=h1
    rw [rK (by omega)] at a1
    obtain ⟨b1,b2,b3⟩:=nZ hnd ks (s++t.1) t.2 (by omega)
    rw [O_] at b1
    exact ⟨by omega,by omega,b3⟩
theorem Ai {x} (h:qI x):(uP x).length≤400000:=by
 have h1:=pB [44,32] 65536 ((x.units.take 6).map jZ) (fun y hy=>by
  obtain ⟨u,hu,rfl⟩:=List.mem_map.1 hy
  rw [cA]
  exact h.unit u (List.mem_of_mem_take hu))
 have h2:((x.units.take 6).map jZ).length≤6:=by rw [U_];exact List.length_take_le _ _
 have h3:=Nat.mul_le_mul_right (65536+2) h2
 simp only [P_,b_] at h1
 unfold uP
 split
 ·decide
 ·split
  ·simp only [O_,P_,b_];omega
  ·decide
theorem Sw {l K} (hN:∀x,x∈l→qI x) {k ind L} (hi:ind.length≤1000) (hL:0≤L) (hK:∀k L,0≤L→Jc 0 L (K k (ind++[32,32]) L)):Jc 8589934592 L (On l K k ind L):=by
 have hx:=Sn hN k
 unfold On
 by_cases h3:(cE l k).kind=3
 ·rw [M_ h3]
  have h1:=wU (ind:=ind) hx
  exact ⟨by show ((mK (cE l k) ind).length:Int)+8589934592*pz L≤_;rw [rK hL];omega,by show L≤L;omega,by show -1≤L;omega⟩
 ·rw [K_ h3]
  by_cases h4:(cE l k).kind=4
  ·rw [M_ h4]
   unfold nY
   split
   ·exact vM (by decide) hL
   ·rename_i hc
    have hL2:0≤L - 2:=by
     have:¬L<2:=fun h=>hc (.inr (.inl h))
     omega
    obtain ⟨a1,a2,a3⟩:=hK (k0 (cE l k)) (L - 2) hL2
    obtain ⟨a,ha⟩:=nm_ (K (k0 (cE l k)) (ind++[32,32]) (L - 2))
    rw [ha] at a1 a2 a3 ⊢
    split
    ·exact vM (by decide) hL
    ·rename_i h0
     rw [rK (by omega)] at a1
     obtain ⟨b1,b2,b3⟩:=hK (k1 (cE l k)) a.2 (by omega)
     obtain ⟨b,hb⟩:=nm_ (K (k1 (cE l k)) (ind++[32,32]) a.2)
     rw [hb] at b1 b2 b3 ⊢
     have h1:=Lr (ind:=ind) hx
     have h2:(Ae l (cE l k) ind b.1).length≤ind.length+9+b.1.length:=by
      unfold Ae
      split
      ·exact h_ _
      ·simp only [O_,P_,b_];omega
     refine ⟨?_,by show b.2≤L;omega,b3⟩
     simp only [O_,P_,b_]
     omega
  ·rw [K_ h4]
   have h1:=Ai hx
   obtain ⟨a1,a2,a3⟩:=hK k L hL
   refine ⟨?_,a2,a3⟩
   simp only [O_,P_,b_]
   omega
theorem xG {l} (hN:∀x,x∈l→qI x):∀(f:Nat) (k:Int) (ind:List UInt8) (L:Int),ind.length+2*f≤1000→0≤L→Jc 8589934592 L (eK l f k ind L)
 | 0,k,ind,L,_,hL=>⟨by show (0:Int)+8589934592*pz L≤_;rw [rK hL];omega,by show L≤L;omega,by show -1≤L;omega⟩
 | f+1,k,ind,L,hi,hL=>by
  rw [eK]
  exact Sw hN (by omega) hL (fun k L hL=>nZ (fun k L hL=>xG hN f k _ L (by simp;omega) hL) _ [] L hL)
theorem iL {l} (hN:∀x,x∈l→qI x) {f k ind L} (hi:ind.length+2*f≤1000) (hL:0≤L):Jc 0 L (bL l (eK l f) k ind L):=
 nZ (fun k L hL=>xG hN f k _ L hi hL) _ [] L hL
theorem Aj (sep xs y):Lib.join (xs++[y]) sep=Lib.join xs sep++((if xs.isEmpty=true then [] else sep)++y):=by
 cases xs with
 | nil=>simp [Lib.join_nil,Lib.join_one]
 | cons x xs=>
  rw [List.cons_append,Lib.join_cons,Lib.join_cons,K_ (by simp)]
  unfold Lib.joinTail
  simp
end Go.Proofs.YtgcfjkfipkfijaaGreatDoor
