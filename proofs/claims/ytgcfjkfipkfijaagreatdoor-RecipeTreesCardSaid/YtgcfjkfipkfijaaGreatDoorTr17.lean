/- Part 17 of the proof of rtrees_card; no conditions. -/
import Derived.Test.YtgcfjkfipkfijaaGreatDoorTr01
import Derived.Test.YtgcfjkfipkfijaaGreatDoorTr09
import Derived.Test.YtgcfjkfipkfijaaGreatDoorTr11
import Derived.Test.YtgcfjkfipkfijaaGreatDoorTr12
import Derived.Test.YtgcfjkfipkfijaaGreatDoorTr15
import Derived.Test.YtgcfjkfipkfijaaGreatDoorTr13
import Derived.Test.YtgcfjkfipkfijaaGreatDoorTr16
import Derived.Lib.Join
import Derived.Lib.Builder
import Derived.Lib.AppendStr
import Derived.Lib.UnsafeStr
import Derived.Shelf.Strings.Builder1
import Derived.Lib.OthersKept
import Derived.Lib.MinMax
set_option maxRecDepth 100000
set_option maxHeartbeats 8000000
namespace Go.Proofs.YtgcfjkfipkfijaaGreatDoor
open Go Go.RowKit Go.Lib _root_.Go.Proofs.Tryz
structure WS where
 out:List UInt8
 left:Int
 bad:Bool
def jZ (s:ByteArray):List UInt8:=s.data.toList
def dP (x:List UInt8) (s:WS):WS:=⟨s.out++x,s.left,s.bad⟩
def BA:Nd:=⟨0,[],[],⟨#[]⟩,[],eD⟩
def cE (l:List Nd) (k:Int):Nd:=l.getD k.toNat BA
def kK (n len:Int) (nd:Int→WS→WS):List Int→WS→WS
 | [],s=>s
 | k::ks,s=>if k≤n∨len≤k∨s.left - 1<0∨s.bad=true then ⟨s.out,s.left - 1,true⟩ else kK n len nd ks (nd k ⟨s.out,s.left - 1,s.bad⟩)
def kF (a:Ar):List UInt8:=jZ a.name++[32,61,32]++kD a.e
def qO (l:List Ar):List UInt8:=Lib.join ((l.take 5).map kF) [44,32]
def oI (x:Nd):List UInt8:=
 if x.kind=1 then [112,97,114] else if x.kind=2 then [117,110,105,116,32]++Lib.join (x.units.map jZ) [44,32] else [115,101,113]
def mK (x:Nd) (ind:List UInt8):List UInt8:=ind++[112,104,97,115,101,32]++jZ x.name++[40]++qO x.args++[41,59,10]
def Hj (x:Nd) (ind:List UInt8):List UInt8:=ind++[105,102,32]++kD x.e++[32,123,10]
def k0 (x:Nd):Int:=x.kids.getD 0 0
def k1 (x:Nd):Int:=x.kids.getD 1 0
def fJ (x:Nd) (n len left:Int):Prop:=x.kids.length≠2∨k0 x≤n∨k1 x≤n∨len≤max (k0 x) (k1 x)∨left - 2<0
instance (x:Nd) (n len left:Int):Decidable (fJ x n len left):=by unfold fJ;infer_instance
def oJ (l:List Nd) (K:Int→List UInt8→WS→WS) (x:Nd) (ind:List UInt8) (s:WS):WS:=
 if (cE l (k1 x)).kids=[] then s else K (k1 x) (ind++[32,32]) (dP (ind++[125,32,101,108,115,101,32,123,10]) s)
def pW (l:List Nd) (K:Int→List UInt8→WS→WS) (x:Nd) (n:Int) (ind:List UInt8) (s:WS):WS:=
 if fJ x n l.length s.left then ⟨s.out,s.left - 2,true⟩
 else dP (ind++[125,10]) (oJ l K x ind (K (k0 x) (ind++[32,32]) (dP (Hj x ind) ⟨s.out,s.left - 2,s.bad⟩)))
def eF (l:List Nd) (nd:Int→List UInt8→WS→WS) (k:Int) (ind:List UInt8) (s:WS):WS:=kK k l.length (fun j=>nd j ind) (cE l k).kids s
def Er (l:List Nd) (K:Int→List UInt8→WS→WS) (k:Int) (ind:List UInt8) (s:WS):WS:=
 if (cE l k).kind=4 then pW l K (cE l k) k ind s
 else if (cE l k).kind=3 then dP (mK (cE l k) ind) s
 else dP (ind++[125,10]) (K k (ind++[32,32]) (dP (ind++oI (cE l k)++[32,123,10]) s))
def bY (l:List Nd):Nat→Int→List UInt8→WS→WS
 | 0,_,_,s=>s
 | f+1,k,ind,s=>Er l (eF l (bY l f)) k ind s
def Es (p:oF):List UInt8:=[112,97,114,97,109,32]++jZ p.name++[32,58,61,32]++Lib.itoa p.n++(if p.scaled then [32,115,99,97,108,101,100] else [])++[59,10]
def gN (r:tL):List UInt8:=[114,101,99,105,112,101,32]++jZ r.name++[10]
def dA (l:List oF):List UInt8:=(l.map Es).flatten
def Lq (r:tL):WS:=dP [125,10] (eF r.nodes (bY r.nodes 24) 0 [32,32] ⟨gN r++dA r.params++[123,10],r.nodes.length,false⟩)
def fF (r:tL):List UInt8 × Bool:=
 if 4<r.params.length∨r.nodes.length<1∨24<r.nodes.length then ([],false) else ((Lq r).out,!(Lq r).bad)
theorem kX {e} (hk:dU e):(kD e).length≤3264:=by
 unfold kD
 split
 ·rename_i h
  obtain ⟨h1,h2⟩:=(Wb e).1 h
  have:=Ia h1 hk
  omega
 ·exact h_ _
theorem pB (sep m):∀xs:List (List UInt8),(∀x,x∈xs→x.length≤m)→(Lib.join xs sep).length≤xs.length*(m+sep.length):=by
 have tail:∀xs:List (List UInt8),(∀x,x∈xs→x.length≤m)→(Lib.joinTail sep xs).length≤xs.length*(m+sep.length):=by
  intro xs
  induction xs with
  | nil=>intro _;simp [Lib.joinTail]
  | cons x xs ih=>
   intro h
   have h1:=ih (fun y hy=>h y (by simp [hy]))
   have h2:=h x (by simp)
   unfold Lib.joinTail at h1 ⊢
   rw [List.map_cons,List.flatten_cons,O_,O_,P_,Nat.succ_mul]
   omega
 intro xs h
 cases xs with
 | nil=>simp [Lib.join_nil]
 | cons x xs=>
  rw [Lib.join_cons,O_,P_,Nat.succ_mul]
  have h1:=tail xs (fun y hy=>h y (by simp [hy]))
  have h2:=h x (by simp)
  omega
structure qI (x:Nd):Prop where
 name:x.name.size≤65536
 units:x.units.length≤65536
 unit:∀u,u∈x.units→u.size≤65536
 arg:∀a,a∈x.args→a.name.size≤65536∧dU a.e
 ex:dU x.e
theorem cA (s):(jZ s).length=s.size:=aJ s
theorem Et {a} (h:a.name.size≤65536∧dU a.e):(kF a).length≤70000:=by
 have h1:=kX h.2
 have h2:=h.1
 unfold kF
 simp only [O_,cA,P_,b_]
 omega
theorem tS {l} (h:∀a,a∈l→a.name.size≤65536∧dU a.e):(qO l).length≤400000:=by
 unfold qO
 have h1:=pB [44,32] 70000 ((l.take 5).map kF) (fun x hx=>by
  obtain ⟨a,ha,rfl⟩:=List.mem_map.1 hx
  exact Et (h a (List.mem_of_mem_take ha)))
 have h2:((l.take 5).map kF).length≤5:=by rw [U_];exact List.length_take_le _ _
 have h3:=Nat.mul_le_mul_right (70000+2) h2
 simp only [P_,b_] at h1
 omega
theorem tT {x} (h:qI x):(Lib.join (x.units.map jZ) [44,32]).length≤4300000000:=by
 have h1:=pB [44,32] 65536 (x.units.map jZ) (fun y hy=>by
  obtain ⟨u,hu,rfl⟩:=List.mem_map.1 hy
  rw [cA]
  exact h.unit u hu)
 have h2:(x.units.map jZ).length≤65536:=by rw [U_];exact h.units
 have h3:=Nat.mul_le_mul_right (65536+2) h2
 simp only [P_,b_] at h1
 omega
theorem zZ {x} (h:qI x):(oI x).length≤4300000010:=by
 have:=tT h
 unfold oI
 split
 ·decide
 ·split
  ·simp only [O_,P_,b_];omega
  ·decide
theorem wU {x ind} (h:qI x):(mK x ind).length≤ind.length+500000:=by
 have h1:=tS h.arg
 have h2:=h.name
 unfold mK
 simp only [O_,cA,P_,b_]
 omega
theorem Lr {x ind} (h:qI x):(Hj x ind).length≤ind.length+5000:=by
 have h1:=kX h.ex
 unfold Hj
 simp only [O_,P_,b_]
 omega
theorem Sn {l} (h:∀x,x∈l→qI x) (k):qI (cE l k):=by
 unfold cE
 rw [S_]
 cases hh:l[k.toNat]? with
 | none=>exact ⟨h_ _,h_ _,fun u hu=>by simp [BA] at hu,fun u hu=>by simp [BA] at hu,by show dU eD;exact ⟨⟨by decide,by decide⟩,⟨by decide,by decide⟩,h_ _,fun k hk=>by simp at hk⟩⟩
 | some x=>exact h x (List.mem_of_getElem? hh)
def So (s:WS):Int:=if 0≤s.left then s.left else 0
def pot (s:WS):Int:=s.out.length+8589934592*So s
structure Wn (a m:Int) (s s':WS):Prop where
 pot:pot s'≤pot s+a
 lo:m≤s'.left
 hi:s'.left≤s.left
theorem kN (x s):pot (dP x s)=pot s+x.length:=by
 unfold pot dP So
 simp only [O_]
 omega
theorem Ck {n len m nd} (hn:∀k s,n<k→k<len→0≤s.left→Wn 8589934592 (m+1) s (nd k s)):∀(ks:List Int) (s:WS),m+1≤s.left→Wn 0 m s (kK n len nd ks s)
 | [],s,h=>⟨by simp [kK],by simp only [kK];omega,by simp [kK]⟩
 | k::ks,s,h=>by
  rw [kK]
  split
  ·refine ⟨?_,by simp only;omega,by simp only;omega⟩
   unfold pot So
   simp only
   repeat' split
   all_goals omega
  ·rename_i hc
   rw [not_or,not_or,not_or] at hc
   have h1:=hn k ⟨s.out,s.left - 1,s.bad⟩ (by omega) (by omega) (by simp only;omega)
   have h2:=Ck hn ks _ h1.lo
   refine ⟨k_ h2.pot ?_,h2.lo,k_ h2.hi (k_ h1.hi (by simp only;omega))⟩
   have h3:=h1.pot
   have h4:pot ⟨s.out,s.left - 1,s.bad⟩+8589934592=pot s:=by
    unfold pot So
    simp only
    repeat' split
    all_goals omega
   omega
theorem Cl {l} (hl:∀x,x∈l→qI x):∀(f:Nat) (k:Int) (ind:List UInt8) (s:WS),ind.length+2*f≤1000→0≤s.left→Wn 8589934592 (-(4+2*f)) s (bY l f k ind s)
 | 0,k,ind,s,_,h=>⟨by simp only [bY];omega,by simp only [bY];omega,by simp [bY]⟩
 | f+1,k,ind,s,hi,h=>by
  rw [bY]
  have hN:=Sn hl k
  have hK:∀(m:Int) (k:Int) (s:WS),m≤-(5+2*f)→m+1≤s.left→Wn 0 m s (eF l (bY l f) k (ind++[32,32]) s):=fun m k s hm h=>by
   unfold eF
   refine Ck (fun j s' _ _ hs=>?_) _ s h
   have:=Cl hl f j (ind++[32,32]) s' (by simp only [O_,P_,b_];omega) hs
   exact ⟨this.pot,by have:=this.lo;omega,this.hi⟩
  unfold Er
  split
  ·unfold pW
   split
   ·refine ⟨?_,by simp only;omega,by simp only;omega⟩
    unfold pot So
    simp only
    repeat' split
    all_goals omega
   ·rename_i hc
    unfold fJ at hc
    rw [not_or,not_or,not_or,not_or] at hc
    have p0:pot ⟨s.out,s.left - 2,s.bad⟩≤pot s:=by
     unfold pot So
     simp only
     repeat' split
     all_goals omega
    have p1:=kN (Hj (cE l k) ind) ⟨s.out,s.left - 2,s.bad⟩
    have l1:=Lr (ind:=ind) hN
    have h1:=hK (-(5+2*f)) (k0 (cE l k)) (dP (Hj (cE l k) ind) ⟨s.out,s.left - 2,s.bad⟩) (by omega) (by show _≤s.left - 2;omega)
    have h1l:(eF l (bY l f) (k0 (cE l k)) (ind++[32,32]) (dP (Hj (cE l k) ind) ⟨s.out,s.left - 2,s.bad⟩)).left≤s.left - 2:=h1.hi
    generalize eF l (bY l f) (k0 (cE l k)) (ind++[32,32]) (dP (Hj (cE l k) ind) ⟨s.out,s.left - 2,s.bad⟩)=s2 at h1 h1l ⊢
    have h2:Wn (ind.length+100) (-(6+2*f)) s2 (oJ l (eF l (bY l f)) (cE l k) ind s2):=by
     unfold oJ
     split
     ·exact ⟨by omega,by have:=h1.lo;omega,m_ _⟩
     ·have p3:=kN (ind++[125,32,101,108,115,101,32,123,10]) s2
      have h3:=hK (-(6+2*f)) (k1 (cE l k)) (dP (ind++[125,32,101,108,115,101,32,123,10]) s2) (by omega) (by show _≤s2.left;have:=h1.lo;omega)
      refine ⟨?_,h3.lo,h3.hi⟩
      have:=h3.pot
      simp only [O_,P_,b_] at p3
      omega
    have p4:=kN (ind++[125,10]) (oJ l (eF l (bY l f)) (cE l k) ind s2)
    refine ⟨?_,by show _≤(oJ l (eF l (bY l f)) (cE l k) ind s2).left;have:=h2.lo;omega,by show (oJ l (eF l (bY l f)) (cE l k) ind s2).left≤_;have:=h2.hi;omega⟩
    have:=h1.pot
    have:=h2.pot
    simp only [O_,P_,b_] at p4
    omega
  ·split
   ·have p1:=kN (mK (cE l k) ind) s
    have l1:=wU (ind:=ind) hN
    exact ⟨by omega,by show _≤s.left;omega,m_ _⟩
   ·have l1:=zZ hN
    have p1:=kN (ind++oI (cE l k)++[32,123,10]) s
    have h1:=hK (-(5+2*f)) k (dP (ind++oI (cE l k)++[32,123,10]) s) (by omega) (by show _≤s.left;omega)
    have p2:=kN (ind++[125,10]) (eF l (bY l f) k (ind++[32,32]) (dP (ind++oI (cE l k)++[32,123,10]) s))
    refine ⟨?_,by show _≤(eF l (bY l f) k _ _).left;have:=h1.lo;omega,h1.hi⟩
    have:=h1.pot
    simp only [O_,P_,b_] at p1 p2
    omega
theorem sN {l} (hl:∀x,x∈l→qI x) (f:Nat) (m k:Int) (ind:List UInt8) (s:WS) (hi:ind.length+2*f≤1000) (hm:m≤-(5+2*f)) (h:m+1≤s.left):Wn 0 m s (eF l (bY l f) k ind s):=by
 unfold eF
 refine Ck (fun j s' _ _ hs=>?_) _ s h
 have:=Cl hl f j ind s' hi hs
 exact ⟨this.pot,by have:=this.lo;omega,this.hi⟩
end Go.Proofs.YtgcfjkfipkfijaaGreatDoor
namespace Go.Proofs.YtgcfjkfipkfijaaGreatDoor
open Go Go.RowKit Go.Lib _root_.Go.Proofs.Tryz
structure Dd (b0 g:Nat) (lv:Value) (s:WS) (v:Value) (w:World):Prop where
 blk:∃p,(p=.pointer none∨p=.pointer (some ⟨g,0,none⟩))∧w.heap[g]? = some (.cells #[p,v,lv,.int .i64 s.left,.bool s.bad] 112 (0,0))
 own:w.ownsRow b0 5 1 v s.out.length (byteCells s.out)
 lo:b0≤g
theorem Dd.ne {b0 g lv v s w} (h:Dd b0 g lv s v w):v.ownBlock≠some g:=by
 obtain ⟨p,_,hb⟩:=h.blk
 exact Lib.ownBlock_ne h.own hb (by decide)
theorem Dd.lt {b0 g lv v s w} (h:Dd b0 g lv s v w):g<w.heap.size:=by
 obtain ⟨p,_,hb⟩:=h.blk
 exact (C_ hb).1
theorem Dd.keep {b0 g lv v s w w' M} (h:Dd b0 g lv s v w) (hs:Same M w w') (h1:g∉M) (h2:∀k,k∈M→v.ownBlock≠some k):Dd b0 g lv s v w':=by
 obtain ⟨p,hp,hb⟩:=h.blk
 exact ⟨⟨p,hp,hs.heap h1 hb⟩,dQ h.own hs h2,h.lo⟩
theorem Dd.below {b0 g lv v s w w'} (h:Dd b0 g lv s v w) (hs:Below w.heap.size w w'):Dd b0 g lv s v w':=h.keep (M:=[]) (Same.of_below hs) (by simp) (by simp)
structure fM (b0 g:Nat) (lv:Value) (w:World) (s':WS) (v':Value) (w':World):Prop where
 st:Dd b0 g lv s' v' w'
 low:Below b0 w w'
 kept:OthersKept 5 (some g) w w'
theorem fM.refl {b0 g lv v s w} (h:Dd b0 g lv s v w):fM b0 g lv w s v w:=⟨h,J_ _ _,OthersKept.refl _ _ _⟩
theorem fM.trans {b0 g lv v1 v2 s1 s2 w w1 w2} (h:fM b0 g lv w s1 v1 w1) (k:fM b0 g lv w1 s2 v2 w2):fM b0 g lv w s2 v2 w2:=⟨k.st,h.low.trans k.low,h.kept.trans k.kept⟩
theorem Ip {e g w w'} (h:Below w.heap.size w w'):OthersKept e g w w':=fun k _o hk _ _=>(h.block k (C_ hk).1).trans hk
theorem fM.below {b0 g lv v s w w'} (h:Dd b0 g lv s v w) (hb:Below w.heap.size w w'):fM b0 g lv w s v w':=⟨h.below hb,hb.mono (d_ h.lo (j_ h.lt)),Ip hb⟩
theorem fM.box {b0 g lv v' s' w w'} (h:fM b0 g lv w s' v' w') {k cs t fr} (hk:w.heap[k]? = some (.cells cs t fr)) (hg:k≠g) (ht:t≠5):w'.heap[k]? = some (.cells cs t fr):=
 h.kept k _ hk (fun e=>hg (e_ e)) (fun c fz e=>by injection e with _ e2 _;exact ht e2)
theorem _root_.Go.Proofs.YtgcfjkfipkfijaaGreatDoor.Same.below_lo {M b0 w w'} (h:Same M w w') (hM:∀k,k∈M→b0≤k) (hb:b0≤w.heap.size):Below b0 w w':=
 ⟨h.os,h.tape,h.output,h.size,fun i hi=>h.block i (by omega) (fun hc=>by have:=hM i hc;omega)⟩
theorem Aa:(Tryz.prog.info? 5).map (fun i=>(i.zero,i.size,i.bytes))=some (some (.int .u8 0),1,1):=by kernel_rfl
theorem sO:(Tryz.prog.info? 110).map (·.size)=some 2:=by kernel_rfl
theorem Eu:liesAt prog Tryz.prog.depth 112 (5 / Tryz.prog.cellsOf 112) 0 110 1=true:=by kernel_rfl
theorem Oa (g w) (h0:w.cell? ⟨g,0,none⟩=some (.pointer (some ⟨g,0,none⟩))) :
  Calls prog 96 #[.pointer (some ⟨g,0,none⟩)] w fun e w'=>e=.returned (.tuple #[])∧w'=w:=by
 obtain ⟨j,hj,_⟩:=Option.map_eq_some_iff.1 sO
 go_enter func96,ntmps96
 go_wp2
 rw [Lib.run_neq_ptr_same w _ underlying107 hj]
 go_wp2
 go_end0
 exact ⟨rfl,rfl⟩
theorem Iq (g w) (h0:w.cell? ⟨g,0,none⟩=some (.pointer none)) (hsh:w.shape? g=some (112,5)) (hfz:w.frozen? ⟨g,0,none⟩=false) :
  Calls prog 96 #[.pointer (some ⟨g,0,none⟩)] w fun e w'=>e=.returned (.tuple #[])∧w'=w.setCell ⟨g,0,none⟩ (.pointer (some ⟨g,0,none⟩)):=by
 obtain ⟨j,hj,hjs⟩:=Option.map_eq_some_iff.1 sO
 go_enter func96,ntmps96
 go_wp2
 rw [Lib.run_to_unsafe w ⟨g,0,none⟩ underlying107 underlying147 hj (by rw [hjs];decide) hsh (Nat.zero_lt_succ 4)]
 simp only [Result.andThen]
 rw [Oper.upon_value]
 go_wp2
 rw [run_callFunc_extern func111 (by kernel_rfl) (by kernel_rfl) (by kernel_rfl) (e:=Extern.AbiNoEscape.same) (by kernel_rfl)]
 rw [Lib.run_noEscape]
 simp only [Result.andThen]
 rw [Oper.upon_value]
 go_wp2
 rw [Lib.run_from_unsafe w ⟨g,0,none⟩ underlying147 underlying107 hj hsh Eu]
 simp only [Result.andThen]
 rw [Oper.upon_value]
 go_wp2
 go_end0
 exact ⟨rfl,rfl⟩
theorem Wm {b0 g lv v s w} (h:Dd b0 g lv s v w) :
  Calls prog 96 #[.pointer (some ⟨g,0,none⟩)] w fun e w'=>e=.returned (.tuple #[])∧Dd b0 g lv s v w'∧w'.heap[g]? = some (.cells #[.pointer (some ⟨g,0,none⟩),v,lv,.int .i64 s.left,.bool s.bad] 112 (0,0))∧Same [g] w w':=by
 obtain ⟨p,hp,hb⟩:=h.blk
 rcases hp with rfl | rfl
 ·refine (Iq g w (aB hb 0) (by simp [World.shape?,hb]) (Lib.frozen_of_heap hb 0)).mono ?_
  rintro e w' ⟨rfl,rfl⟩
  have hS:Same [g] w (w.setCell ⟨g,0,none⟩ (.pointer (some ⟨g,0,none⟩))):=(Same.refl [g] w).setCell (.inl (by simp)) _
  have hb':(w.setCell ⟨g,0,none⟩ (.pointer (some ⟨g,0,none⟩))).heap[g]? = some (.cells #[.pointer (some ⟨g,0,none⟩),v,lv,.int .i64 s.left,.bool s.bad] 112 (0,0)):=by
   simp [World.setCell,Array.getElem?_modify,hb]
  exact ⟨rfl,⟨⟨_,.inr rfl,hb'⟩,dQ h.own hS (fun k hk=>by simp at hk;subst hk;exact h.ne),h.lo⟩,hb',hS⟩
 ·refine (Oa g w (aB hb 0)).mono ?_
  rintro e w' ⟨rfl,rfl⟩
  exact ⟨rfl,h,hb,Same.refl _ _⟩
theorem Ob {b0 g lv v s w} (x) (h:Dd b0 g lv s v w) (hlen:s.out.length+x.size≤140737488355328) (hb0:b0≤w.heap.size) :
  Calls prog 65 #[.pointer (some ⟨g,0,none⟩),.string x] w fun e w'=>e=.returned (.tuple #[.int .i64 x.size,.nilIface])∧∃v',fM b0 g lv w (dP x.data.toList s) v' w':=by
 obtain ⟨i0,hi,hz0,hz1,hz2⟩:=info_parts Aa
 have HC:=hid (Wm h)
 go_enter func65,ntmps65
 go_wp2_with (go_at_call 96;refine HC.out.mono ?_)
 rintro e w1 ⟨rfl,h1,hbk,hS⟩
 have hown:=h1.own
 have hne:=h1.ne
 have hlt:=h1.lt
 have c0:w1.cell? ⟨g,0,none⟩=some (.pointer (some ⟨g,0,none⟩)):=aB hbk 0
 have c1:w1.cell? ⟨g,1,none⟩=some v:=aB hbk 1
 go_wp2_with (at_builtin;refine Lib.wpList_append_own_string _ rfl _ _ 108 9 rfl b0 5 i0 underlying108 underlying9 hi hz0 hz1 hz2 _ _ _ rfl hown x rfl ?c3 ?c4 ?c5 ?_)
 case c3=>unfold maxLen;omega
 case c4=>omega
 case c5=>have:=hS.size;omega
 intro v' w2 hown' hgrow _
 have hb2:w2.heap[g]? = some (.cells #[.pointer (some ⟨g,0,none⟩),v,lv,.int .i64 s.left,.bool s.bad] 112 (0,0)):=by
  rw [hgrow.block g hlt (fun e=>hne e.symm)]
  exact hbk
 have d0:w2.cell? ⟨g,0,none⟩=some (.pointer (some ⟨g,0,none⟩)):=aB hb2 0
 have d1:w2.cell? ⟨g,1,none⟩=some v:=aB hb2 1
 have f1:w2.frozen? ⟨g,1,none⟩=false:=Lib.frozen_of_heap hb2 1
 obtain ⟨ao,n',cap,rfl⟩:∃ao n' cap,v'=.slice ao n' cap:=by
  rcases hown'.2 with ⟨hv,_⟩ | ⟨g,cap,cur,hv,_⟩
  ·exact ⟨_,_,_,hv⟩
  ·exact ⟨_,_,_,hv⟩
 go_wp2
 go_ret2
 refine ⟨rfl,.slice ao n' cap,?_,?_,?_⟩
 ·have hne':=Lib.ownBlock_ne hown' hb2 (by decide)
  refine ⟨⟨_,.inr rfl,by simp [World.setCell,Array.getElem?_modify,hb2,dP]⟩,?_,h.lo⟩
  have hSS:Same [g] w2 (w2.setCell ⟨g,1,none⟩ (.slice ao n' cap)):=(Same.refl [g] w2).setCell (.inl (by simp)) _
  refine dQ ?_ hSS (fun k hk=>by simp at hk;subst hk;exact hne')
  have e:(dP x.data.toList s).out.length=s.out.length+x.size:=by unfold dP;rw [O_,aJ]
  rw [e]
  unfold dP
  rw [Lib.byteCells_append]
  exact hown'
 ·exact ((hS.below_lo (fun k hk=>by simp at hk;subst hk;exact h.lo) hb0).grown hgrow (by have:=hS.size;omega) (fun k hk=>(aS hown k hk).1)).setCell (p:=⟨g,1,none⟩) h.lo _
 ·refine (OthersKept.grown (fun k o hk hb ho=>?_) hgrow (fun k hk=>?_)).setCell ⟨g,1,none⟩ rfl _
  ·exact (hS.block k (C_ hk).1 (fun hc=>by simp at hc;subst hc;exact hb rfl)).trans hk
  ·rcases hown.2 with ⟨h',_⟩ | ⟨g',cap',cur,h',_,hh,_⟩
   ·rw [h'] at hk;simp [Value.ownBlock] at hk
   ·rw [h'] at hk;simp [Value.ownBlock] at hk;subst hk;exact ⟨cur,_,hh⟩
theorem wV {b0 g lv v s w} (h:Dd b0 g lv s v w) (h0:s.out≠[]) :
  Calls prog 68 #[.pointer (some ⟨g,0,none⟩)] w fun e w'=>e=.returned (.string (str s.out))∧Below b0 w w'∧w'.heap[g]? = w.heap[g]?:=by
 obtain ⟨p,hp,hbk⟩:=h.blk
 have hown:=h.own
 have hne:=h.ne
 obtain ⟨i0,hi,hz0,hz1,hz2⟩:=info_parts Aa
 have hl0:s.out.length≠0:=by simpa using h0
 obtain ⟨k,cap,cur,rfl,hbg,hg,hnc,hcm,hcs,htake⟩:∃k cap cur,v=.slice (some ⟨k,0,none⟩) s.out.length cap∧b0≤k∧w.heap[k]? = some (.cells cur 5 (0,0))∧s.out.length≤cap∧cap≤maxLen∧cur.size=cap*1∧cur.toList.take (s.out.length*1)=byteCells s.out:=by
  rcases hown.2 with ⟨_,hz⟩ | ⟨g,cap,cur,hv,r⟩
  ·exact absurd hz hl0
  ·exact ⟨g,cap,cur,hv,r⟩
 have c1:w.drew.cell? ⟨g,1,none⟩=some (.slice (some ⟨k,0,none⟩) s.out.length cap):=aB (w:=w.drew) hbk 1
 have hSD:(Builtin.unsafeSliceData_ #[108] 136 #[.slice (some ⟨k,0,none⟩) s.out.length cap]).run prog w.drew=.ok (.pointer (some ⟨k,0,none⟩)) w.drew:=
  Lib.run_unsafeSliceData_row _ _ _ _ _ _ (by omega)
 have hUS:(Builtin.unsafeString_ #[136,3] 9 #[.pointer (some ⟨k,0,none⟩),.int .i64 s.out.length]).run prog w.drew=.ok (.string (str s.out)) (w.drew.freeze ⟨k,0,none⟩ s.out.length):=by
  refine Lib.run_unsafeString_row w.drew 136 3 9 5 underlying136 (by kernel_rfl) k cur.size (by have hg':w.drew.heap[k]? = some (.cells cur 5 (0,0)):=hg;simp [World.shape?,hg']) s.out h0 (by omega) (by unfold maxLen at hcm;omega) ?_
  intro j x hx
  exact hown.cells (g:=k) rfl j (.int .u8 x.toNat) (by simp [Lib.byteCells,hx])
 have hkg:k≠g:=fun e=>hne (by rw [e];rfl)
 have hfz:(w.drew.freeze ⟨k,0,none⟩ s.out.length).heap[g]? = w.heap[g]?:=by
  unfold World.freeze
  split
  ·rfl
  ·simp only [Array.getElem?_modify]
   rw [K_ hkg]
   rfl
 have hlow:Below b0 w (w.drew.freeze ⟨k,0,none⟩ s.out.length):=Lib.below_freeze (Below.drew (J_ b0 w)) (p:=⟨k,0,none⟩) hbg _
 have HF:=hid hfz
 have HL:=hid hlow
 clear hfz hlow
 go_enter func68,ntmps68
 go_wp2
 go_region
 all_goals (go_wp2;go_ret;exact ⟨rfl,HL.out,HF.out⟩)
end Go.Proofs.YtgcfjkfipkfijaaGreatDoor
namespace Go.Proofs.YtgcfjkfipkfijaaGreatDoor
open Go Go.RowKit Go.Lib _root_.Go.Proofs.Tryz
variable {α : Type} {w : World} {x : α}
theorem Ls {k:Nat} {v0 v1 v2 v3 v4:Value} {t:TypeId} (h:w.heap[k]? = some (.cells #[v0,v1,v2,v3,v4] t (0,0))) :
  w.cell? ⟨k,0,none⟩=some v0∧w.cell? ⟨k,1,none⟩=some v1∧w.cell? ⟨k,2,none⟩=some v2∧w.cell? ⟨k,3,none⟩=some v3∧w.cell? ⟨k,4,none⟩=some v4:=
 ⟨aB h 0,aB h 1,aB h 2,aB h 3,aB h 4⟩
theorem jL (ad:Addr) (k j:Nat) (hj:j≠0):ad.add (k+j)=⟨(ad.add k).block,(ad.add k).off+j,none⟩:=by
 unfold Addr.add
 rw [K_ (by omega)]
 split
 ·rename_i h
  subst h
  rw [Nat.zero_add]
 ·rw [Nat.add_assoc]
theorem pX (ad:Addr) (k:Nat):(ad.add k).block=ad.block:=by unfold Addr.add;split <;> rfl
theorem rG {d:aN α} {P:Nat→Prop} {B:Option Addr} {b:Nat} {xs:List α} {ad:Addr} (h:aO d P w B b xs) (i) (hi:i<xs.length) (e:B=some ad):ad.block<w.heap.size:=by
 obtain ⟨ad',e',_,hl,_⟩:=(h.2 [] (by simp)).2 (by omega)
 rw [e] at e'
 injection e' with e'
 subst e'
 exact hl
theorem kO {P w ad c al} (h:aO oH P w (some ad) c al) (i) (hi:i<al.length):∃A ec,w.cell? (ad.add (i*5))=some (.string al[i].name)∧w.cell? ⟨(ad.add (i*5)).block,(ad.add (i*5)).off+1,none⟩=some (.int .i64 al[i].e.op) ∧
  w.cell? ⟨(ad.add (i*5)).block,(ad.add (i*5)).off+2,none⟩=some (.int .i64 al[i].e.n)∧w.cell? ⟨(ad.add (i*5)).block,(ad.add (i*5)).off+3,none⟩=some (.string al[i].e.name)∧w.cell? ⟨(ad.add (i*5)).block,(ad.add (i*5)).off+4,none⟩=some (.slice A al[i].e.kids.length ec) ∧
  cR P w al[i].e A ec∧(ad.add (i*5)).block<w.heap.size:=by
 obtain ⟨ad',cs,e,hav,hcell⟩:=h.at_ i hi
 injection e with e
 subst e
 obtain ⟨A,ec,rfl,hec,hex⟩:=Ee (hav [] (by simp))
 refine ⟨A,ec,hcell 0 _ rfl,?_,?_,?_,?_,⟨hec,fun M hM=>?_⟩,by rw [pX];exact rG h i hi rfl⟩
 ·rw [←jL _ _ 1 (by decide)];exact hcell 1 _ rfl
 ·rw [←jL _ _ 2 (by decide)];exact hcell 2 _ rfl
 ·rw [←jL _ _ 3 (by decide)];exact hcell 3 _ rfl
 ·rw [←jL _ _ 4 (by decide)];exact hcell 4 _ rfl
 ·obtain ⟨A',ec',e',_,hex'⟩:=Ee (hav M hM)
  simp at e'
  rw [e'.1]
  exact hex'
theorem Yv {f:α→ByteArray} {l w T b0 P B n b} (h:aR aN.str T b0 P w B n b (((l.map f).map sE)++[(f x,[.string (f x)])])):aR aN.str T b0 P w B n b (((l++[x]).map f).map sE):=by
 rw [f_,f_];exact h
theorem Sp {P w gA gc al} (h:aO oH P w gA gc al) (hk:∀a,a∈al→a.name.size≤65536∧dU a.e) (hT:cF w) :
  Calls prog 115 #[.slice gA al.length gc] w fun r w'=>r=.returned (.string (str (qO al)))∧Below w.heap.size w w':=by
 have H:=hk_ h hk hT
 obtain ⟨n,hn⟩:=nm_ al.length
 have hc:=h.1
 have hml:=(h.2 [] (by simp)).1
 obtain ⟨m,hm,hmn,hm5⟩:∃m:Nat,min (n:Int) 5=(m:Int)∧m≤n∧m≤5:=⟨min n 5,by omega,by omega,by omega⟩
 have hmm:m=min n 5:=by omega
 rw [hn] at hc hml ⊢
 have HM:=hj_ hn hmm
 have hgc:(m:Int)≤gc:=by omega
 clear h hk hT hn hmm
 go_enter func115,ntmps115
 go_wp2_with fail
 go_loopg [3,12] (m+1) (fun k s3 s12 wr=>∃i B b,s3=.slice B i b∧s12=.int .i64 (i:Nat)∧i≤m∧m - i<k∧aR aN.str 9 w.heap.size (fun k=>k<w.heap.size) wr B i b (((al.take i).map (fun a=>str (kF a))).map sE)∧Below w.heap.size w wr)
 case atStart=>exact ⟨0,none,0,rfl,rfl,h_ _,by omega,aR.nil _ _ _ _ _,J_ _ _⟩
 case round=>
  obtain ⟨i,B,b,rfl,rfl,him,hik,hG,hb⟩:=hrel
  obtain ⟨gk,rfl⟩:=pk_ gk 1 (by omega)
  by_cases hlt:i<m
  ·have hin:i<al.length:=by rw [HM.out.1];omega
   have hrow:aO oH P wr gA gc al:=H.out.1.below hb
   obtain ⟨ad,_,rfl,_,_⟩:=hrow.at_ i hin
   obtain ⟨A,ec,c0,c1,c2,c3,c4,hex,hbl⟩:=kO hrow i hin
   obtain ⟨a,ha⟩:=nm_ (al[i])
   have hain:a∈al:=ha▸g_ hin
   have hsz:=H.out.2.1 a hain
   have htk:al.take (i+1)=al.take i++[a]:=by rw [Z_ hin,ha]
   rw [ha] at c0 c1 c2 c3 c4 hex
   obtain ⟨nm,o,n',nm',ks⟩:=a
   simp only [Ex.op,Ex.n,Ex.name,Ex.kids] at c0 c1 c2 c3 c4
   have hpl:=kX hsz.2
   have HPR:=hid (fun W (hW:Below wr.heap.size wr W)=>zY (.mk o n' nm' ks) A ec W ((hex.2 [] (by simp)).keep (Same.of_below hW)) hex.1 hsz.2 (H.out.2.2.below (hb.trans (hW.mono hb.size))))
   obtain ⟨pt,hpt⟩:=nm_ (str (kD (.mk o n' nm' ks)))
   have hps:pt.size≤3264:=by rw [←hpt,bW];exact hpl
   rw [hpt] at HPR
   have hnm:nm.size≤65536:=hsz.1
   have es:(⟨#[32,61,32]⟩:ByteArray).size=3:=rfl
   have e1:∀W,(Op.stringOp .add nm ⟨#[32,61,32]⟩).run prog W=.ok (.string (nm++⟨#[32,61,32]⟩)) W:=fun W=>run_string_add_sum (w:=W) _ _ (by rw [es];omega)
   obtain ⟨y,hy⟩:=nm_ (nm++⟨#[32,61,32]⟩++pt)
   have e2:∀W,(Op.stringOp .add (nm++⟨#[32,61,32]⟩) pt).run prog W=.ok (.string y) W:=by
    rw [←hy]
    exact fun W=>run_string_add_sum (w:=W) _ _ (by rw [ByteArray.size_append,es];omega)
   have HA:Hid (y=str (kF ⟨nm,.mk o n' nm' ks⟩)∧al.take (i+1)=al.take i++[⟨nm,.mk o n' nm' ks⟩]):=hid ⟨by
    rw [←hy]
    unfold kF jZ
    rw [←dC,←dC,dO,hpt]
    rfl,htk⟩
   have HB:Hid (aR aN.str 9 w.heap.size (fun k=>k<w.heap.size) wr B i b (((al.take i).map (fun a=>str (kF a))).map sE)∧Below w.heap.size w wr):=hid ⟨hG,hb⟩
   have hz:(i:Int)<m:=by omega
   have hz0:(0:Int)≤i:=by omega
   have hi5:i≤5:=by omega
   have hsw:=hb.size
   clear hex hain hsz htk ha hrow hG hb hpt hpl es hnm hps hy
   go_wp2_with fail
   obtain ⟨w2,hw2⟩:=nm_ (wr.alloc (.cells #[.string nm,.int .i64 o,.int .i64 n',.string nm',.slice A ks.length ec] 75))
   obtain ⟨K,hK⟩:=nm_ wr.heap.size
   have hbx:w2.heap[K]? = some (.cells #[.string nm,.int .i64 o,.int .i64 n',.string nm',.slice A ks.length ec] 75 (0,0)):=by rw [←hw2,←hK];exact I_ _ _
   have hb2:Below wr.heap.size wr w2:=hw2▸(J_ _ _).alloc le_ _
   rw [hw2,hK]
   have HX:Hid (w2.heap[K]? = some (.cells #[.string nm,.int .i64 o,.int .i64 n',.string nm',.slice A ks.length ec] 75 (0,0))∧Below wr.heap.size wr w2∧aR aN.str 9 w.heap.size (fun k=>k<w.heap.size) w2 B i b (((al.take i).map (fun a=>str (kF a))).map sE)∧Below w.heap.size w w2):=hid ⟨hbx,hb2,HB.out.1.below hb2,HB.out.2.trans (hb2.mono HB.out.2.size)⟩
   have hkl:=aC hbx
   obtain ⟨d0,d1,d2,d3,d4⟩:=Ls hbx
   clear hbx hb2 hw2 hK c0 c1 c2 c3 c4 hbl
   go_region_law (first
    | (go_simp;go_at_call 125;refine (HPR.out _ ?_).mono ?_;(first | exact HX.out.2.1 | exact HX.out.2.1.drew);rintro r w9 ⟨rfl,hb9⟩;have HW9:Hid (aR aN.str 9 w.heap.size (fun k=>k<w.heap.size) w9 B i b (((al.take i).map (fun a=>str (kF a))).map sE)∧Below w.heap.size w w9):=hid (by first | exact ⟨HX.out.2.2.1.below hb9,HX.out.2.2.2.trans (hb9.mono HX.out.2.2.2.size)⟩ | exact ⟨(HX.out.2.2.1.below (J_ _ _).drew).below hb9,(HX.out.2.2.2.drew).trans (hb9.mono HX.out.2.2.2.size)⟩);have hbx9:=(hb9.block K hkl).trans HX.out.1;obtain ⟨y0,y1,y2,y3,y4⟩:=Ls hbx9;have hl9:=aC hbx9;clear hb9 hbx9;(try go_wp2_with fail))
    | (refine zS (by rfl) _ _ _ (by rfl) (.string ⟨#[]⟩) 16 underlying37 gM (by rfl) (by decide) (by rfl) HW9.out.1 y #[.string y] _ (by rfl) (by rfl) (by simp [Value.oneCell']) (Av.str _ _ _) (by unfold maxLen;omega) (by omega) HW9.out.2.size ?_;intro g2 cap w10 hG hS hg2))
   all_goals
    rw [HA.out.1] at hG
    have HW10:Hid (aR aN.str 9 w.heap.size (fun k=>k<w.heap.size) w10 (some ⟨g2,0,none⟩) (i+1) cap (((al.take (i+1)).map (fun a=>str (kF a))).map sE)∧Below w.heap.size w w10):=hid ⟨by rw [HA.out.2];exact Yv hG,HW9.out.2.trans ((hS.below_lo (fun k hk=>(HW9.out.1.blk k (by simpa using hk)).1) HW9.out.2.size))⟩
    go_wp2_with fail
    go_roundg gk
    case measure=>omega
    case rel=>exact ⟨i+1,some ⟨g2,0,none⟩,cap,rfl,by go_num,by omega,by omega,HW10.out.1,HW10.out.2⟩
  ·obtain rfl:i=m:=by omega
   have hb0:i=0∨0<i:=by omega
   have hal:al.take i=al.take 5:=by rw [HM.out.2,←HM.out.1];simp [List.take_eq_take_iff,Nat.min_comm]
   have hj:(Lib.join (((al.take i).map (fun a=>str (kF a))).map (·.data.toList)) (⟨#[44,32]⟩:ByteArray).data.toList)=qO al:=by
    unfold qO
    rw [List.map_map,hal]
    congr 1
   have hlen:=tS H.out.2.1
   have hsw:=hb.size
   have hib:i≤b:=by
    rcases hG.own.2 with ⟨hv,hz⟩ | ⟨g,cap,cur,hv,_,hh,hcp,_⟩
    ·omega
    ·injection hv with e1 _ e3
     omega
   have hll:((al.take i).map (fun a=>str (kF a))).length=i:=by rw [U_,l_,HM.out.1];omega
   rcases hb0 with rfl | hpos
   ·have HE:Hid (qO al=[]):=hid (by rw [←hj];exact Lib.join_nil _)
    have HB:=hid hb
    clear hj hlen hal hG hb hll
    go_wp2_with (go_at_call 113;refine (Tryz.strings_Join_none _ _ _ _).mono ?_;rintro r w9 ⟨rfl,rfl⟩)
    go_ret
    exact ⟨bV (by rw [HE.out];rfl),HB.out⟩
   ·obtain ⟨g2,rfl,hgl,hcl⟩:∃g2,B=some ⟨g2,0,none⟩∧g2<wr.heap.size∧∀(j:Nat) x,((al.take i).map (fun a=>str (kF a)))[j]? = some x→wr.cell? ⟨g2,0+j,none⟩=some (.string x):=by
     rcases hG.own.2 with ⟨_,hz⟩ | ⟨g,cap,cur,hv,_,hh,_⟩
     ·omega
     ·injection hv with e1 _ e3
      subst e1 e3
      refine ⟨g,rfl,(C_ hh).1,fun j x hx=>?_⟩
      have hq:=hG.own.cells (g:=g) rfl j (.string x) (by rw [Bz,List.getElem?_map,hx];rfl)
      rw [Nat.zero_add]
      by_cases hj0:j=0
      ·subst hj0;exact hq
      ·simpa [Addr.add,hj0] using hq
    have HJ:=hid (fun W (hW:W=wr)=>Tryz.strings_Join g2 0 b ((al.take i).map (fun a=>str (kF a))) ⟨#[44,32]⟩ W (hW▸hcl) (hW▸hgl) (by rw [hll];omega) (by rw [hll];exact hib) (by rw [hj];omega))
    rw [hj,hll] at HJ
    have HB:=hid hb
    clear hj hlen hal hG hb hll hcl
    go_wp2_with (go_at_call 113;refine (HJ.out _ rfl).mono ?_;rintro r w9 ⟨rfl,hb9⟩)
    go_ret
    exact ⟨rfl,HB.out.trans (hb9.mono HB.out.size)⟩
end Go.Proofs.YtgcfjkfipkfijaaGreatDoor
namespace Go.Proofs.YtgcfjkfipkfijaaGreatDoor
open Go Go.RowKit Go.Lib _root_.Go.Proofs.Tryz
theorem aM (a b) (h:a.length+b.length≤1125899906842624) (W):(Op.stringOp .add (str a) (str b)).run prog W=.ok (.string (str (a++b))) W:=by
 rw [←dC]
 exact run_string_add_sum (w:=W) _ _ (by rw [bW,bW];omega)
theorem eG {P w ad c l} (h:aO yS P w (some ad) c l) (i) (hi:i<l.length):∃kA kc uA uc gA gc eA ec,
  (w.cell? (ad.add (i*9))=some (.int .i64 l[i].kind)∧w.cell? ⟨(ad.add (i*9)).block,(ad.add (i*9)).off+1,none⟩=some (.slice kA l[i].kids.length kc)∧w.cell? ⟨(ad.add (i*9)).block,(ad.add (i*9)).off+2,none⟩=some (.slice uA l[i].units.length uc) ∧
  w.cell? ⟨(ad.add (i*9)).block,(ad.add (i*9)).off+3,none⟩=some (.string l[i].name)∧w.cell? ⟨(ad.add (i*9)).block,(ad.add (i*9)).off+4,none⟩=some (.slice gA l[i].args.length gc)∧w.cell? ⟨(ad.add (i*9)).block,(ad.add (i*9)).off+5,none⟩=some (.int .i64 l[i].e.op) ∧
  w.cell? ⟨(ad.add (i*9)).block,(ad.add (i*9)).off+6,none⟩=some (.int .i64 l[i].e.n)∧w.cell? ⟨(ad.add (i*9)).block,(ad.add (i*9)).off+7,none⟩=some (.string l[i].e.name)∧w.cell? ⟨(ad.add (i*9)).block,(ad.add (i*9)).off+8,none⟩=some (.slice eA l[i].e.kids.length ec)) ∧
  aO (aN.int .i64) P w kA kc l[i].kids∧aO aN.str P w uA uc l[i].units∧aO oH P w gA gc l[i].args∧cR P w l[i].e eA ec∧(ad.add (i*9)).block<w.heap.size:=by
 obtain ⟨ad',cs,e,hav,hcell⟩:=h.at_ i hi
 injection e with e
 subst e
 obtain ⟨q,hq,rfl,h1,h2,h3,h4,h5⟩:=hav [] (by simp)
 obtain ⟨x,hx⟩:=nm_ (l[i])
 rw [hx] at hav hq h1 h2 h3 h4 h5 ⊢
 obtain ⟨nd,kA,kc,uA,uc,gA,gc,eA,ec⟩:=q
 simp only at hq
 subst hq
 have hc:∀j u,j≠0→(NQ.enc ⟨nd,kA,kc,uA,uc,gA,gc,eA,ec⟩)[j]? = some u→w.cell? ⟨(ad.add (i*9)).block,(ad.add (i*9)).off+j,none⟩=some u:=fun j u hj hu=>by
  rw [←jL _ _ j hj];exact hcell j u hu
 have hall:∀M:List Nat,(∀k,k∈M→P k)→(aN.int .i64).Row M w kA nd.kids∧aN.str.Row M w uA nd.units∧oH.Row M w gA nd.args∧gU.Row M w eA nd.e.kids:=fun M hM=>by
  obtain ⟨q',hq',he',k1,k2,k3,k4,k5⟩:=hav M hM
  obtain ⟨nd',kA',kc',uA',uc',gA',gc',eA',ec'⟩:=q'
  simp only at hq'
  subst hq'
  simp [NQ.enc,NQ.kV] at he'
  obtain ⟨⟨rfl,rfl⟩,⟨rfl,rfl⟩,⟨rfl,rfl⟩,rfl,rfl⟩:=he'
  exact ⟨k1.2,k2.2,k3.2,k5⟩
 exact ⟨kA,kc,uA,uc,gA,gc,eA,ec,⟨hcell 0 _ rfl,hc 1 _ (by decide) rfl,hc 2 _ (by decide) rfl,hc 3 _ (by decide) rfl,hc 4 _ (by decide) rfl,hc 5 _ (by decide) rfl,hc 6 _ (by decide) rfl,hc 7 _ (by decide) rfl,hc 8 _ (by decide) rfl⟩,
  ⟨h1.1,fun M hM=>(hall M hM).1⟩,⟨h2.1,fun M hM=>(hall M hM).2.1⟩,⟨h3.1,fun M hM=>(hall M hM).2.2.1⟩,⟨h4,fun M hM=>(hall M hM).2.2.2⟩,by rw [pX];exact rG h i hi rfl⟩
theorem dT {P w A c l} (h:aO (aN.int .i64) P w A c l) (i) (hi:i<l.length):∃ad,A=some ad∧w.cell? (ad.add i)=some (.int .i64 l[i])∧ad.block<w.heap.size:=by
 obtain ⟨ad,cs,e,hav,hcell⟩:=h.at_ i hi
 have he:cs=[.int .i64 l[i]]:=hav [] (by simp)
 subst he
 refine ⟨ad,e,?_,rG h i hi e⟩
 have:=hcell 0 _ rfl
 simpa [aN.int] using this
structure mM (wB:World) (g:Nat) (lv:Value) (s:WS) (v:Value) (w:World):Prop where
 wr:Dd wB.heap.size g lv s v w
 low:Below wB.heap.size wB w
def Lt (wB:World) (g:Nat) (lv:Value) (w:World) (s':WS) (r:Ending) (w':World):Prop:=r=.returned (.tuple #[])∧∃v',fM wB.heap.size g lv w s' v' w'
section
variable {wB w w' : World} {g : Nat} {lv v v' : Value} {s s' : WS}
theorem mM.to (h:mM wB g lv s v w) (k:fM wB.heap.size g lv w s' v' w'):mM wB g lv s' v' w':=⟨k.st,h.low.trans k.low⟩
theorem mM.below (h:mM wB g lv s v w) (k:Below w.heap.size w w'):mM wB g lv s v w':=h.to (fM.below h.wr k)
theorem mM.size (h:mM wB g lv s v w):wB.heap.size≤w.heap.size:=h.low.size
theorem mM.left (h:mM wB g lv s v w) (n):fM wB.heap.size g lv w ⟨s.out,n,s.bad⟩ v (w.setCell ⟨g,3,none⟩ (.int .i64 n)):=by
 obtain ⟨p,hp,hb⟩:=h.wr.blk
 have hS:Same [g] w (w.setCell ⟨g,3,none⟩ (.int .i64 n)):=(Same.refl [g] w).setCell (.inl (by simp)) _
 exact ⟨⟨⟨p,hp,by simp [World.setCell,Array.getElem?_modify,hb]⟩,dQ h.wr.own hS (fun k hk=>by simp at hk;subst hk;exact h.wr.ne),h.wr.lo⟩,(J_ _ _).setCell (p:=⟨g,3,none⟩) h.wr.lo _,(OthersKept.refl _ _ _).setCell ⟨g,3,none⟩ rfl _⟩
theorem mM.bad (h:mM wB g lv s v w):fM wB.heap.size g lv w ⟨s.out,s.left,true⟩ v (w.setCell ⟨g,4,none⟩ (.bool true)):=by
 obtain ⟨p,hp,hb⟩:=h.wr.blk
 have hS:Same [g] w (w.setCell ⟨g,4,none⟩ (.bool true)):=(Same.refl [g] w).setCell (.inl (by simp)) _
 exact ⟨⟨⟨p,hp,by simp [World.setCell,Array.getElem?_modify,hb]⟩,dQ h.wr.own hS (fun k hk=>by simp at hk;subst hk;exact h.wr.ne),h.wr.lo⟩,(J_ _ _).setCell (p:=⟨g,4,none⟩) h.wr.lo _,(OthersKept.refl _ _ _).setCell ⟨g,4,none⟩ rfl _⟩
theorem mM.cells (h:mM wB g lv s v w):(∃p,w.cell? ⟨g,0,none⟩=some p)∧w.cell? ⟨g,2,none⟩=some lv∧w.cell? ⟨g,3,none⟩=some (.int .i64 s.left)∧w.cell? ⟨g,4,none⟩=some (.bool s.bad)∧w.frozen? ⟨g,3,none⟩=false∧w.frozen? ⟨g,4,none⟩=false∧g<w.heap.size:=by
 obtain ⟨p,hp,hb⟩:=h.wr.blk
 exact ⟨⟨p,aB hb 0⟩,aB hb 2,aB hb 3,aB hb 4,Lib.frozen_of_heap hb 3,Lib.frozen_of_heap hb 4,h.wr.lt⟩
theorem dG (x) (h:mM wB g lv s v w) (hlen:(s.out.length:Int)+x.length≤140737488355328) :
  Calls prog 65 #[.pointer (some ⟨g,0,none⟩),.string (str x)] w fun e w'=>e=.returned (.tuple #[.int .i64 x.length,.nilIface])∧∃v',fM wB.heap.size g lv w (dP x s) v' w':=by
 have h1:=Ob (str x) h.wr (by rw [bW];omega) h.size
 rwa [bW,Ec] at h1
end
def Cm (l:List Nd) (nA:Option Addr) (nc:Nat) (wB:World) (g f:Nat):Prop:=∀(k:Int) (ind:List UInt8) (s:WS) (v:Value) (w:World),0≤k→k<l.length→l.length - k≤f→ind.length+2*f≤1000→0≤s.left→s.left≤30→pot s+8589934592≤1099511627776→mM wB g (.slice nA l.length nc) s v w →
 Calls prog 98 #[.pointer (some ⟨g,0,none⟩),.int .i64 k,.string (str ind)] w (Lt wB g (.slice nA l.length nc) w (bY l f k ind s))
def wW (l:List Nd) (nA:Option Addr) (nc:Nat) (wB:World) (g f:Nat):Prop:=∀(k:Int) (ind:List UInt8) (s:WS) (v:Value) (w:World),0≤k→k<l.length→l.length - k≤f+1→ind.length+2*f≤1000→-100≤s.left→s.left≤30→pot s≤1099511627776→mM wB g (.slice nA l.length nc) s v w →
 Calls prog 67 #[.pointer (some ⟨g,0,none⟩),.int .i64 k,.string (str ind)] w (Lt wB g (.slice nA l.length nc) w (eF l (bY l f) k ind s))
theorem mZ {l:List Nd} {k:Int} (h0:0≤k) (h:k<l.length):cE l k=l[k.toNat]'(by omega):=by
 unfold cE
 rw [S_,R_ (by omega)]
 rfl
theorem rH (s):(s.out.length:Int)≤pot s:=by
 unfold pot So
 split <;> omega
theorem Ev {P l nA nc wB g f} (hf:f≤40) (hN:∀x,x∈l→qI x) (hR:aO yS P wB nA nc l) (hn:Cm l nA nc wB g f):wW l nA nc wB g f:=by
 intro k ind s v w h0 hk hd hi hlo hhi hp h
 obtain ⟨m,rfl⟩:∃m:Nat,k=m:=⟨k.toNat,by omega⟩
 have hm:m<l.length:=by omega
 obtain ⟨ad,_,rfl,_,_⟩:=hR.at_ m hm
 obtain ⟨kA,kc,uA,uc,gA,gc,eA,ec,⟨_,c1,_⟩,hkr,_,_,_,hbl⟩:=eG hR m hm
 replace c1:=(h.low.cell (p:=⟨(ad.add (m*9)).block,(ad.add (m*9)).off+1,none⟩) hbl).trans c1
 replace hbl:=Y_ hbl h.size
 have hnd:cE l m=l[m]:=mZ h0 hk
 have hlc:=hR.1
 have hml:=(hR.2 [] (by simp)).1
 obtain ⟨x,hx⟩:=nm_ (l[m])
 rw [hx] at hnd c1 hkr
 have hkl:=hkr.1
 have hkm:=(hkr.2 [] (by simp)).1
 obtain ⟨F,hF⟩:=nm_ (eF l (bY l f) m ind s)
 rw [hF]
 unfold eF at hF
 rw [hnd] at hF
 obtain ⟨⟨p0,d0⟩,d2,d3,d4,f3,f4,hgl⟩:=h.cells
 have H:Hid (mM wB g (.slice (some ad) l.length nc) s v w∧aO (aN.int .i64) P wB kA kc x.kids∧Cm l (some ad) nc wB g f∧kK m l.length (fun j=>bY l f j ind) x.kids s=F):=hid ⟨h,hkr,hn,hF⟩
 have H2:Hid (-100≤s.left∧s.left≤30∧pot s≤1099511627776):=hid ⟨hlo,hhi,hp⟩
 clear h hkr hR hn hF hx hnd hlo hhi hp
 go_enter func67,ntmps67
 go_wp2_with fail
 clear c1 d0 d2 d3 d4 f3 f4 hbl hgl
 go_loopg [17] (x.kids.length+1) (fun q s17 wr=>∃(i:Nat) (s':WS) (v':Value),s17=.int .i64 (i:Nat)∧i≤x.kids.length∧x.kids.length - i<q∧mM wB g (.slice (some ad) l.length nc) s' v' wr∧fM wB.heap.size g (.slice (some ad) l.length nc) w s' v' wr∧kK m l.length (fun j=>bY l f j ind) (x.kids.drop i) s'=F∧-100≤s'.left∧s'.left≤30∧pot s'≤1099511627776)
 case atStart=>exact ⟨0,s,v,rfl,h_ _,by omega,H.out.1,fM.refl H.out.1.wr,by rw [List.drop_zero];exact H.out.2.2.2,H2.out.1,H2.out.2.1,H2.out.2.2⟩
 case round=>
  obtain ⟨i,s',v',rfl,hix,hiq,hW,hT,hF,hlo,hhi,hp⟩:=hrel
  obtain ⟨gk,rfl⟩:=pk_ gk 1 (by omega)
  by_cases hlt:i<x.kids.length
  ·obtain ⟨ka,rfl,c0,hkb⟩:=dT (H.out.2.1.below hW.low) i hlt
   obtain ⟨j,hj⟩:=nm_ (x.kids[i])
   have hdr:x.kids.drop i=j::x.kids.drop (i+1):=by rw [List.drop_eq_getElem_cons hlt,hj]
   rw [hj] at c0
   rw [hdr,kK] at hF
   obtain ⟨⟨p0,d0⟩,d2,d3,d4,f3,f4,hgl⟩:=hW.cells
   have HS:Hid (mM wB g (.slice (some ad) l.length nc) s' v' wr∧fM wB.heap.size g (.slice (some ad) l.length nc) w s' v' wr):=hid ⟨hW,hT⟩
   have HL:=hid (hW.left (s'.left - 1))
   by_cases hc:j≤m∨(l.length:Int)≤j∨s'.left - 1<0∨s'.bad=true
   ·rw [M_ hc] at hF
    have HF:=hid hF
    have HB:=hid ((HS.out.1.to HL.out).bad)
    clear hW hT hF hp hdr hj
    have fin:∀w2:World,w2=(wr.setCell ⟨g,3,none⟩ (.int .i64 (s'.left - 1))).setCell ⟨g,4,none⟩ (.bool true)→Lt wB g (.slice (some ad) l.length nc) w F (.returned (.tuple #[])) w2:=fun w2 e=>⟨rfl,v',by
     rw [e,←HF.out]
     exact HS.out.2.trans (HL.out.trans HB.out)⟩
    have FIN:=hid fin
    clear fin
    by_cases h1:j≤m
    ·clear hc
     go_wp2_with fail
     go_end0
     exact FIN.out _ rfl
    ·by_cases h2:(l.length:Int)≤j
     ·clear hc
      go_wp2_with fail
      go_end0
      exact FIN.out _ rfl
     ·by_cases h3:s'.left - 1<0
      ·clear hc
       go_wp2_with fail
       go_end0
       exact FIN.out _ rfl
      ·have h4:s'.bad=true:=by
        rcases hc with h | h | h | h
        ·exact absurd h h1
        ·exact absurd h h2
        ·exact absurd h h3
        ·exact h
       clear hc
       go_wp2_with fail
       go_end0
       exact FIN.out _ rfl
   ·rw [K_ hc] at hF
    rw [not_or,not_or,not_or] at hc
    obtain ⟨h1,h2,h3,h4⟩:=hc
    have h4:s'.bad=false:=by simpa using h4
    have hps:pot ⟨s'.out,s'.left - 1,s'.bad⟩+8589934592=pot s':=by
     unfold pot So
     simp only
     repeat' split
     all_goals omega
    have hw1:=Cl hN f j ind ⟨s'.out,s'.left - 1,s'.bad⟩ hi (by show 0≤s'.left - 1;omega)
    have HNC:=hid (H.out.2.2.1 j ind ⟨s'.out,s'.left - 1,s'.bad⟩ v' _ (by omega) (by omega) (by omega) hi (by show 0≤s'.left - 1;omega) (by show s'.left - 1≤30;omega) (by omega) (HS.out.1.to HL.out))
    have hw2:-100≤(bY l f j ind ⟨s'.out,s'.left - 1,s'.bad⟩).left∧(bY l f j ind ⟨s'.out,s'.left - 1,s'.bad⟩).left≤30∧pot (bY l f j ind ⟨s'.out,s'.left - 1,s'.bad⟩)≤1099511627776:=by
     have a1:=hw1.lo
     have a2:=hw1.hi
     have a3:=hw1.pot
     simp only at a2
     omega
    have HF:=hj_ hF hw2
    clear hW hT hF hp hdr hj hps hw1 hw2
    go_wp2_with fail
    refine HNC.out.mono ?_
    rintro r w9 ⟨rfl,v9,h9⟩
    have H9:=hid h9
    clear h9
    go_wp2_with fail
    go_roundg gk
    case measure=>omega
    case rel=>exact ⟨i+1,_,v9,by go_num,by omega,by omega,(HS.out.1.to HL.out).to H9.out,HS.out.2.trans (HL.out.trans H9.out),HF.out.1,HF.out.2.1,HF.out.2.2.1,HF.out.2.2.2⟩
  ·obtain rfl:i=x.kids.length:=by omega
   rw [List.drop_length] at hF
   have hFF:s'=F:=hF
   subst hFF
   have HT:=hid hT
   clear hW hT hF hlo hhi hp
   go_wp2_with fail
   go_end0
   exact ⟨rfl,v',HT.out⟩
end Go.Proofs.YtgcfjkfipkfijaaGreatDoor
namespace Go.Proofs.YtgcfjkfipkfijaaGreatDoor
open Go Go.RowKit Go.Lib _root_.Go.Proofs.Tryz
theorem Sq {P w A c l} (h:aO aN.str P w A c l) (h0:l≠[]):∃bk o,A=some ⟨bk,o,none⟩∧bk<w.heap.size∧∀(j:Nat) x,l[j]? = some x→w.cell? ⟨bk,o+j,none⟩=some (.string x):=by
 have hp:0<l.length:=F_ h0
 have key:∀i (hi:i<l.length),∃ad,A=some ad∧w.cell? (ad.add i)=some (.string l[i]):=fun i hi=>by
  obtain ⟨ad,cs,e,hav,hcell⟩:=h.at_ i hi
  have he:cs=[.string l[i]]:=hav [] (by simp)
  subst he
  refine ⟨ad,e,?_⟩
  have:=hcell 0 _ rfl
  simpa [aN.str] using this
 obtain ⟨⟨bk,o,sp⟩,rfl,hc⟩:=key 0 hp
 have hbl:=rG h 0 hp rfl
 have hs:sp=none:=by
  cases sp with
  | none=>rfl
  | some x=>
   have e:(⟨bk,o,some x⟩:Addr).add 0=⟨bk,o,some x⟩:=rfl
   rw [e] at hc
   unfold World.cell? at hc
   split at hc <;> simp at hc
 subst hs
 refine ⟨bk,o,rfl,hbl,fun j x hj=>?_⟩
 obtain ⟨hl,rfl⟩:=List.getElem?_eq_some_iff.1 hj
 obtain ⟨ad,e,hc'⟩:=key j hl
 injection e with e
 subst e
 by_cases h:j=0
 ·subst h;exact hc'
 ·simpa [Addr.add,h] using hc'
theorem Sr {P w uA uc us} (h:aO aN.str P w uA uc us) (hn:us.length≤65536) (hl:(Lib.join (us.map jZ) [44,32]).length≤4300000000) :
  Calls prog 113 #[.slice uA us.length uc,.string ⟨#[44,32]⟩] w fun r w'=>r=.returned (.string (str (Lib.join (us.map jZ) [44,32])))∧Below w.heap.size w w':=by
 by_cases h0:us=[]
 ·subst h0
  refine (Tryz.strings_Join_none _ _ _ _).mono ?_
  rintro r w' ⟨rfl,rfl⟩
  exact ⟨rfl,J_ _ _⟩
 ·obtain ⟨bk,o,rfl,hb,hc⟩:=Sq h h0
  exact Tryz.strings_Join bk o uc us ⟨#[44,32]⟩ w hc hb (by omega) h.1 (d_ hl (by omega))
def lO (x:Nd) (kA:Option Addr) (kc:Nat) (uA:Option Addr) (uc:Nat) (gA:Option Addr) (gc:Nat) (eA:Option Addr) (ec:Nat):Array Value:=
 #[.int .i64 x.kind,.slice kA x.kids.length kc,.slice uA x.units.length uc,.string x.name,.slice gA x.args.length gc,.int .i64 x.e.op,.int .i64 x.e.n,.string x.e.name,.slice eA x.e.kids.length ec]
def Yj (l:List Nd) (nA:Option Addr) (nc:Nat) (wB:World) (g f:Nat):Prop:=∀(P:Nat→Prop) (x:Nd) (kA:Option Addr) (kc:Nat) (uA:Option Addr) (uc:Nat) (gA:Option Addr) (gc:Nat) (eA:Option Addr) (ec:Nat) (k:Int) (ind:List UInt8) (s:WS) (v:Value) (w:World),
 qI x→aO (aN.int .i64) P wB kA kc x.kids→cR P wB x.e eA ec→0≤k→k<l.length→l.length - k≤f+1→ind.length+2*(f+1)≤1000→0≤s.left→s.left≤30→pot s+8589934592≤1099511627776→mM wB g (.slice nA l.length nc) s v w →
 Calls prog 114 #[.pointer (some ⟨g,0,none⟩),.agg (lO x kA kc uA uc gA gc eA ec),.int .i64 k,.string (str ind)] w (Lt wB g (.slice nA l.length nc) w (pW l (eF l (bY l f)) x k ind s))
theorem Oc {P l nA nc wB g f} (hf:f≤40) (hN:∀x,x∈l→qI x) (hR:aO yS P wB nA nc l) (hT:cF wB) (hK:wW l nA nc wB g f) (hC:Yj l nA nc wB g f):Cm l nA nc wB g (f+1):=by
 intro k ind s v w h0 hk hd hi hlo hhi hp h
 obtain ⟨m,rfl⟩:∃m:Nat,k=m:=⟨k.toNat,by omega⟩
 have hm:m<l.length:=by omega
 obtain ⟨ad,_,rfl,_,_⟩:=hR.at_ m hm
 obtain ⟨kA,kc,uA,uc,gA,gc,eA,ec,⟨c0,c1,c2,c3,c4,c5,c6,c7,c8⟩,hkr,hur,hgr,her,hbl⟩:=eG hR m hm
 have hnd:cE l m=l[m]:=mZ h0 hk
 have hlc:=hR.1
 have hml:=(hR.2 [] (by simp)).1
 obtain ⟨x,hx⟩:=nm_ (l[m])
 have hxN:qI x:=hx▸hN _ (g_ hm)
 rw [hx] at hnd c0 c1 c2 c3 c4 c5 c6 c7 c8 hkr hur hgr her
 replace c0:=(h.low.cell (p:=ad.add (m*9)) hbl).trans c0
 replace c1:=(h.low.cell (p:=⟨(ad.add (m*9)).block,(ad.add (m*9)).off+1,none⟩) hbl).trans c1
 replace c2:=(h.low.cell (p:=⟨(ad.add (m*9)).block,(ad.add (m*9)).off+2,none⟩) hbl).trans c2
 replace c3:=(h.low.cell (p:=⟨(ad.add (m*9)).block,(ad.add (m*9)).off+3,none⟩) hbl).trans c3
 replace c4:=(h.low.cell (p:=⟨(ad.add (m*9)).block,(ad.add (m*9)).off+4,none⟩) hbl).trans c4
 replace c5:=(h.low.cell (p:=⟨(ad.add (m*9)).block,(ad.add (m*9)).off+5,none⟩) hbl).trans c5
 replace c6:=(h.low.cell (p:=⟨(ad.add (m*9)).block,(ad.add (m*9)).off+6,none⟩) hbl).trans c6
 replace c7:=(h.low.cell (p:=⟨(ad.add (m*9)).block,(ad.add (m*9)).off+7,none⟩) hbl).trans c7
 replace c8:=(h.low.cell (p:=⟨(ad.add (m*9)).block,(ad.add (m*9)).off+8,none⟩) hbl).trans c8
 replace hbl:=Y_ hbl h.size
 obtain ⟨F,hF⟩:=nm_ (bY l (f+1) m ind s)
 rw [hF]
 rw [bY] at hF
 unfold Er at hF
 rw [hnd] at hF
 obtain ⟨⟨p0,d0⟩,d2,d3,d4,f3,f4,hgl⟩:=h.cells
 have hpg:=rH s
 have H:Hid (mM wB g (.slice (some ad) l.length nc) s v w∧qI x∧cF wB∧aO (aN.int .i64) P wB kA kc x.kids∧aO aN.str P wB uA uc x.units∧aO oH P wB gA gc x.args∧cR P wB x.e eA ec):=hid ⟨h,hxN,hT,hkr,hur,hgr,her⟩
 have HK:=hj_ hK hC
 have HN:=hid hN
 have H2:Hid (0≤s.left∧s.left≤30∧pot s+8589934592≤1099511627776):=hid ⟨hlo,hhi,hp⟩
 have HBX:Hid ((w.alloc (.cells (lO x kA kc uA uc gA gc eA ec) 43)).heap[w.heap.size]? = some (.cells (lO x kA kc uA uc gA gc eA ec) 43 (0,0))∧Below w.heap.size w (w.alloc (.cells (lO x kA kc uA uc gA gc eA ec) 43))):=hid ⟨I_ _ _,(J_ _ _).alloc le_ _⟩
 clear h hR hx hnd hlo hhi hp hK hC hxN hT hkr hur hgr her hN
 have hi9:ind.length≤1000:=by omega
 obtain ⟨xd,xk,xu,xn,xa,xe⟩:=x
 simp only at c0 c1 c2 c3 c4 c5 c6 c7 c8 hF
 by_cases hk4:xd=4
 ·subst hk4
  rw [M_ rfl] at hF
  have HF:=hid hF
  clear hF
  go_enter func98,ntmps98
  go_wp2_with fail
  refine (HK.out.2 P ⟨4,xk,xu,xn,xa,xe⟩ kA kc uA uc gA gc eA ec m ind s v _ H.out.2.1 H.out.2.2.2.1 H.out.2.2.2.2.2.2 h0 hk (by omega) hi H2.out.1 H2.out.2.1 H2.out.2.2 (H.out.1.below HBX.out.2)).mono ?_
  rintro r w9 ⟨rfl,v9,h9⟩
  rw [HF.out] at h9
  have H9:=hid h9
  clear h9
  go_wp2_with fail
  go_end0
  exact ⟨rfl,v9,(fM.below H.out.1.wr HBX.out.2).trans H9.out⟩
 ·rw [K_ hk4] at hF
  by_cases hk3:xd=3
  ·subst hk3
   rw [M_ rfl] at hF
   unfold mK at hF
   simp only at hF
   have hnl:=H.out.2.1.name
   have hal:=tS H.out.2.1.arg
   simp only at hnl hal
   have HAR:=hid (fun W (hW:Below wB.heap.size wB W)=>Sp (H.out.2.2.2.2.2.1.below hW) H.out.2.1.arg (H.out.2.2.1.below hW))
   obtain ⟨at',hat⟩:=nm_ (qO xa)
   simp only [hat] at HAR hF hal
   obtain ⟨a1,h1⟩:=nm_ (ind++[112,104,97,115,101,32])
   rw [h1] at hF
   obtain ⟨a2,h2⟩:=nm_ (a1++jZ xn)
   rw [h2] at hF
   obtain ⟨a3,h3⟩:=nm_ (a2++[40])
   rw [h3] at hF
   obtain ⟨a4,h4⟩:=nm_ (a3++at')
   rw [h4] at hF
   obtain ⟨a5,h5⟩:=nm_ (a4++[41,59,10])
   rw [h5] at hF
   have l1:a1.length=ind.length+6:=by rw [←h1];simp
   have l2:a2.length=a1.length+xn.size:=by rw [←h2,O_,cA]
   have l3:a3.length=a2.length+1:=by rw [←h3];simp
   have l4:a4.length=a3.length+at'.length:=by rw [←h4];simp
   have l5:a5.length=a4.length+3:=by rw [←h5];simp
   have e1:∀W,(Op.stringOp .add (str ind) ⟨#[112,104,97,115,101,32]⟩).run prog W=.ok (.string (str a1)) W:=fun W=>by rw [←h1];exact aM ind [112,104,97,115,101,32] (by simp;omega) W
   have e2:∀W,(Op.stringOp .add (str a1) xn).run prog W=.ok (.string (str a2)) W:=fun W=>by
    have:=aM a1 (jZ xn) (by rw [cA];omega) W
    rw [h2] at this
    rwa [show str (jZ xn)=xn from dO xn] at this
   have e3:∀W,(Op.stringOp .add (str a2) ⟨#[40]⟩).run prog W=.ok (.string (str a3)) W:=fun W=>by rw [←h3];exact aM a2 [40] (by simp;omega) W
   have e4:∀W,(Op.stringOp .add (str a3) (str at')).run prog W=.ok (.string (str a4)) W:=fun W=>by rw [←h4];exact aM a3 at' (by omega) W
   have e5:∀W,(Op.stringOp .add (str a4) ⟨#[41,59,10]⟩).run prog W=.ok (.string (str a5)) W:=fun W=>by rw [←h5];exact aM a4 [41,59,10] (by simp;omega) W
   have hpo:=H2.out.2.2
   have hlen:(s.out.length:Int)+a5.length≤140737488355328:=by omega
   have HF:=hj_ hF hlen
   clear hF h1 h2 h3 h4 h5 l1 l2 l3 l4 l5 hal hnl hat hlen hpo
   go_enter func98,ntmps98
   go_wp2_with fail
   obtain ⟨w2,hw2⟩:=nm_ (w.alloc (.cells #[.int .i64 3,.slice kA xk.length kc,.slice uA xu.length uc,.string xn,.slice gA xa.length gc,.int .i64 xe.op,.int .i64 xe.n,.string xe.name,.slice eA xe.kids.length ec] 43))
   obtain ⟨K,hKK⟩:=nm_ w.heap.size
   have HX:Hid (w2.heap[K]? = some (.cells #[.int .i64 3,.slice kA xk.length kc,.slice uA xu.length uc,.string xn,.slice gA xa.length gc,.int .i64 xe.op,.int .i64 xe.n,.string xe.name,.slice eA xe.kids.length ec] 43 (0,0))∧mM wB g (.slice (some ad) l.length nc) s v w2∧Below w.heap.size w w2):=hid (by
    rw [←hw2,←hKK];exact ⟨HBX.out.1,H.out.1.below HBX.out.2,HBX.out.2⟩)
   rw [hw2,hKK]
   have hkl:=aC HX.out.1
   obtain ⟨b0,b1,b2,b3,b4,b5,b6,b7,b8⟩:=nV HX.out.1
   clear c0 c1 c2 c3 c4 c5 c6 c7 c8 p0 d0 d2 d3 d4 f3 f4 hgl hbl hw2 hKK HBX
   go_region_with (first
    | (go_at_call 115;refine (HAR.out _ ?_).mono ?_;(first | exact HX.out.2.1.low | exact HX.out.2.1.low.drew);rintro r w3 ⟨rfl,hb3⟩;have H3:Hid (mM wB g (.slice (some ad) l.length nc) s v w3∧Below w.heap.size w w3):=hid (by first | exact ⟨HX.out.2.1.below hb3,HX.out.2.2.trans (hb3.mono HX.out.2.2.size)⟩ | exact ⟨(HX.out.2.1.below (J_ _ _).drew).below hb3,HX.out.2.2.drew.trans (hb3.mono HX.out.2.2.size)⟩);have hbx:=(hb3.block K hkl).trans HX.out.1;obtain ⟨q0,q1,q2,q3,q4,q5,q6,q7,q8⟩:=nV hbx;have hk3:=aC hbx;clear hb3 hbx;(try go_wp2_with fail))
    | (go_at_call 65;refine (dG a5 H3.out.1 HF.out.2).mono ?_;rintro r w4 ⟨rfl,v4,h4⟩;have H4:=hid h4;clear h4;(try go_wp2_with fail)))
   all_goals
    go_wp2_with fail
    go_end0
    exact ⟨rfl,v4,by rw [←HF.out.1];exact (fM.below H.out.1.wr H3.out.2).trans H4.out⟩
  ·rw [K_ hk3] at hF
   have hhl:=zZ H.out.2.1
   obtain ⟨hd',hhd⟩:=nm_ (oI ⟨xd,xk,xu,xn,xa,xe⟩)
   rw [hhd] at hF hhl
   obtain ⟨a1,h1⟩:=nm_ (ind++hd')
   rw [h1] at hF
   obtain ⟨a2,h2⟩:=nm_ (a1++[32,123,10])
   rw [h2] at hF
   obtain ⟨a3,h3⟩:=nm_ (ind++[32,32])
   rw [h3] at hF
   obtain ⟨a4,h4⟩:=nm_ (ind++[125,10])
   rw [h4] at hF
   have l1:a1.length=ind.length+hd'.length:=by rw [←h1];simp
   have l2:a2.length=a1.length+3:=by rw [←h2];simp
   have l3:a3.length=ind.length+2:=by rw [←h3];simp
   have l4:a4.length=ind.length+2:=by rw [←h4];simp
   have e1:∀W,(Op.stringOp .add (str ind) (str hd')).run prog W=.ok (.string (str a1)) W:=fun W=>by rw [←h1];exact aM ind hd' (by omega) W
   have e2:∀W,(Op.stringOp .add (str a1) ⟨#[32,123,10]⟩).run prog W=.ok (.string (str a2)) W:=fun W=>by rw [←h2];exact aM a1 [32,123,10] (by simp;omega) W
   have e3:∀W,(Op.stringOp .add (str ind) ⟨#[32,32]⟩).run prog W=.ok (.string (str a3)) W:=fun W=>by rw [←h3];exact aM ind [32,32] (by simp;omega) W
   have e4:∀W,(Op.stringOp .add (str ind) ⟨#[125,10]⟩).run prog W=.ok (.string (str a4)) W:=fun W=>by rw [←h4];exact aM ind [125,10] (by simp;omega) W
   have hp2:=kN a2 s
   have hpo:=H2.out.2.2
   have hlo2:(dP a2 s).left=s.left:=rfl
   have hl0:=H2.out.1
   have hl3:=H2.out.2.1
   have HW1:Hid ((s.out.length:Int)+a2.length≤140737488355328∧a3.length+2*f≤1000∧-100≤(dP a2 s).left∧(dP a2 s).left≤30∧pot (dP a2 s)≤1099511627776):=hid ⟨by omega,by omega,by omega,by omega,by omega⟩
   have hkn:=(sN HN.out f (-100) m a3 (dP a2 s) HW1.out.2.1 (by omega) (by omega))
   obtain ⟨s2,hs2⟩:=nm_ (eF l (bY l f) m a3 (dP a2 s))
   rw [hs2] at hkn hF
   have hp3:=rH s2
   have hp4:=hkn.pot
   have HF:=hid (⟨hF,hs2,by omega⟩:_∧_∧(s2.out.length:Int)+a4.length≤140737488355328)
   have HHD:=hid hhd
   clear hF h1 h2 h3 h4 l1 l2 l3 l4 hhl hp2 hpo hlo2 hl0 hl3 hs2 hkn hp3 hp4 hhd
   go_enter func98,ntmps98
   go_upto_block 0 with fail
   go_cut [7] (fun s7 wx=>s7=.string (str hd')∧Below w.heap.size w wx)
   case first=>
    by_cases hk1:xd=1
    ·subst hk1
     have hh:hd'=[112,97,114]:=by rw [←HHD.out];rfl
     subst hh
     go_wp2_with fail
     go_meet
     exact ⟨rfl,HBX.out.2⟩
    ·by_cases hk2:xd=2
     ·subst hk2
      have HU:=hid (fun W (hW:Below wB.heap.size wB W)=>Sr (H.out.2.2.2.2.1.below hW) H.out.2.1.units (tT H.out.2.1))
      have hul:=tT H.out.2.1
      simp only at hul
      obtain ⟨ju,hju⟩:=nm_ (Lib.join (xu.map jZ) [44,32])
      have hh:[117,110,105,116,32]++ju=hd':=by rw [←HHD.out,←hju];rfl
      simp only [hju] at HU hul
      have e5:∀W,(Op.stringOp .add ⟨#[117,110,105,116,32]⟩ (str ju)).run prog W=.ok (.string (str hd')) W:=fun W=>by rw [←hh];exact aM [117,110,105,116,32] ju (by simp;omega) W
      clear hul hju hh
      go_wp2_with fail
      refine (HU.out _ ((H.out.1.below HBX.out.2).low)).mono ?_
      rintro r w2 ⟨rfl,hb2⟩
      have HB2:=hid hb2
      clear hb2
      go_wp2_with fail
      go_meet
      exact ⟨rfl,HBX.out.2.trans (HB2.out.mono HBX.out.2.size)⟩
     ·have hh:hd'=[115,101,113]:=by rw [←HHD.out];unfold oI;rw [K_ hk1,K_ hk2]
      subst hh
      go_wp2_with fail
      go_meet
      exact ⟨rfl,HBX.out.2⟩
   case rest=>
    obtain ⟨rfl,hbx⟩:=hcut
    have HX:=hj_ (H.out.1.below hbx) (fM.below H.out.1.wr hbx)
    clear hbx
    go_wp2_with fail
    refine (dG a2 HX.out.1 HW1.out.1).mono ?_
    rintro r w3 ⟨rfl,v3,h3⟩
    have H3:=hj_ (HX.out.1.to h3) (HX.out.2.trans h3)
    clear h3
    go_wp2_with fail
    refine (HK.out.1 m a3 (dP a2 s) v3 _ h0 hk (by omega) HW1.out.2.1 HW1.out.2.2.1 HW1.out.2.2.2.1 HW1.out.2.2.2.2 H3.out.1).mono ?_
    rw [HF.out.2.1]
    rintro r w4 ⟨rfl,v4,h4⟩
    have H4:=hj_ (H3.out.1.to h4) (H3.out.2.trans h4)
    clear h4
    go_wp2_with fail
    refine (dG a4 H4.out.1 HF.out.2.2).mono ?_
    rintro r w5 ⟨rfl,v5,h5⟩
    have H5:=hid h5
    clear h5
    go_wp2_with fail
    go_end0
    exact ⟨rfl,v5,by rw [←HF.out.1];exact H4.out.2.trans H5.out⟩
end Go.Proofs.YtgcfjkfipkfijaaGreatDoor
