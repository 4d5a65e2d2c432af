/- Part 37 of the proof of rtrees_card; no conditions. -/
import Derived.Test.YtgcfjkfipkfijaaGreatDoorTr01
import Derived.Test.YtgcfjkfipkfijaaGreatDoorTr03
import Derived.Test.YtgcfjkfipkfijaaGreatDoorTr16
import Derived.Test.YtgcfjkfipkfijaaGreatDoorTr24
import Derived.Test.YtgcfjkfipkfijaaGreatDoorRows
import Derived.Test.YtgcfjkfipkfijaaGreatDoorCards
import Derived.Test.YtgcfjkfipkfijaaGreatDoorTie
import Derived.ProofKit
import Derived.Deep.DeepHandedRow
import Derived.Deep.DeepWitnessRowRef
import Derived.Lib.LaidU8
import Derived.LaidMore
import Derived.JoinedOf
import Derived.JoinedCond
import Derived.SevenTiedAt
import Derived.Deep.Slices
import Derived.Deep.Fields
import Derived.ChangeSame
import Derived.Lib.SmallJoins
import Derived.Carry
import Derived.OpenShut
set_option maxRecDepth 100000
namespace Go.Proofs.YtgcfjkfipkfijaaGreatDoor
open Go Go.RowKit Go.ChangeShapes Go.WideShapes _root_.Go.Proofs.Tryz
open Go.Lib (VarReads)
def Me:List (String × DataW Unit):=[("math/bits.deBruijn32tab",Rows.laid_math_bits_deBruijn32tab), ("math/bits.deBruijn64tab",Rows.laid_math_bits_deBruijn64tab), ("internal/strconv.uint64pow10",Rows.laid_internal_strconv_uint64pow10), ("unicode/utf8.acceptRanges",Rows.laid_unicode_utf8_acceptRanges), ("unicode/utf8.first",Rows.laid_unicode_utf8_first)]
theorem own:ownKnob Tryz.prog.godebug=none:=by kernel_rfl
theorem Xk:laidOutB prog=true:=by kernel_rfl
noncomputable def qC (os:Os):World:=
 let w0:=World.doorLaid prog 34 os
 { w0 with heap:=w0.heap.modify 0 fun
   | .cells _ t frozen=>.cells (Lib.firstTab.map fun z=>Value.int .u8 z).toArray t frozen
   | o=>o }
theorem Tu (os:Os) (args):laidMetH prog Me ((qC os).forCall (fun _ _=>0) ⟨#[],args,[]⟩).memory:=
 laidMetH_of_parts3 (fuel:=8) (laidMet_of_run' 8 (by kernel_rfl) (by kernel_rfl)) (by kernel_rfl) (by kernel_rfl)
theorem xY {P W} {name:String} {k zs g t e n} (hg:P.globalNamed name=some g) (hty:(P.globals[g]?).map (·.type)=some t) (ht:P.underlying t=some (.array n e)) (he:P.underlying e=some (.int k)) (hce:P.cellsOf e=1) (hct:P.cellsOf t=n) (h:VarReads P W name (Lib.tabData k zs)):Lib.TabIs P W name k zs:=by
 obtain ⟨g',t',cs,fuel,p,hg',ht',hvar,hd⟩:=h
 obtain rfl:=e_ (hg.symm.trans hg')
 obtain rfl:=e_ (hty.symm.trans ht')
 unfold Lib.TabIs
 rw [hvar,←Lib.cells_of_tab ht he hce hct hd]
theorem Zf {P:Program} {W:World} {n:String} {g:Nat} {cs:Array Value} (hg:P.globalNamed n=some g) (h:W.var? P n=some cs):g<W.heap.size:=by
 unfold World.var? at h
 rw [hg] at h
 simp only [Option.bind_some] at h
 cases hh:W.heap[g]? with
 | none=>rw [hh] at h;simp at h
 | some o=>exact (C_ hh).1
theorem Jr {W} (h:laidMetH prog Me W):laidMet prog Me W:=by
 rw [MakeChecks.laidMetH_plain _ _ _ (by kernel_rfl)] at h
 exact h
theorem Tv:Rows.laid_unicode_utf8_first=Lib.firstData:=by kernel_rfl
theorem Pk:(Rows.laid_unicode_utf8_acceptRanges:DataW Unit)=Lib.acceptData:=by kernel_rfl
theorem Zg:(Rows.laid_internal_strconv_uint64pow10:DataW Unit)=Lib.tabData .u64 Lib.pow10Tab:=by kernel_rfl
theorem Tw:(Tryz.prog.globals[3]?).map (·.type)=some 179:=by kernel_rfl
theorem Pl:Tryz.prog.underlying 179=some (.array 20 141):=by kernel_rfl
theorem Pm:Tryz.prog.underlying 141=some (.int .u64):=by kernel_rfl
theorem Pn:Tryz.prog.cellsOf 141=1:=by kernel_rfl
theorem Po:Tryz.prog.cellsOf 179=20:=by kernel_rfl
theorem Js:Tryz.prog.globalNamed "math/bits.deBruijn64tab" = some 5:=by kernel_rfl
theorem Tx:U8Extra prog Tryz.lays260_ren:=⟨by kernel_rfl,by kernel_rfl,by kernel_rfl,by kernel_rfl,by kernel_rfl,by kernel_rfl,by kernel_rfl⟩
theorem Xl {W} (hL0:laidMetH prog Me W) (hsh:W.ShapedOpen prog):cF W:=by
 have hL:=Jr hL0
 refine ⟨?_,?_,?_,?_⟩
 ·exact utf8Tabs_of_reads Tryz.lays260 Tx (Tv▸Lib.laidMet.reads hL (.tail _ (.tail _ (.tail _ (.tail _ (.head _)))))) (Pk▸Lib.laidMet.reads hL (.tail _ (.tail _ (.tail _ (.head _)))))
 ·exact Tryz.laysM219.s1_3 W hsh
 ·exact xY vW Tw Pl Pm Pn Po (Zg▸Lib.laidMet.reads hL (.tail _ (.tail _ (.head _))))
 ·obtain ⟨g,t,cs,fuel,p,h1,h2,h3,h4⟩:=Lib.laidMet.reads hL (.tail _ (.head _))
  obtain rfl:=e_ (Js.symm.trans h1)
  exact Zf h1 h3
end Go.Proofs.YtgcfjkfipkfijaaGreatDoor
namespace Go.Proofs.YtgcfjkfipkfijaaGreatDoor
open Go Go.RowKit Go.ChangeShapes Go.WideShapes Go.Deep Go.Joins _root_.Go.Proofs.Tryz
section
variable {H : Type} {enc : TypeId × Value → H} {W : World}
def eU (t:TypeId) (d:DataW H):Prop:=(d.weights prog t).all (fun n=>decide (n≤reachBytes))=true
theorem pG {t}:∀(l:List (DataW H)),(DataW.weightsAll prog t l).all (fun n=>decide (n≤reachBytes))=true→∀d,d∈l→eU t d
 | [],_,d,hd=>by simp at hd
 | x::l,h,d,hd=>by
  rw [DataW.weightsAll,List.all_append,a_] at h
  rcases List.mem_cons.1 hd with rfl | hd
  ·exact h.1
  ·exact pG l h.2 d hd
abbrev dH (enc:TypeId × Value→H) (W:World) (n:Nat) (t:TypeId) (cs:List Value) (x:DataW H × List MemPlace):Prop:=DataW.trod enc prog W 0 (fun _=>true) true n t cs=some x
theorem nF {α:Type} (d:aN α) {E S} {Q:α→Prop} {fuel cs x} (hS:Tryz.prog.underlying S=some (.slice E)) (hC:Tryz.prog.cellsOf E=d.sz) (hsz:0<d.sz) (hel:∀n,n<fuel→∀(cs:List Value) (x:DataW H × List MemPlace),dH enc W n E cs x→eU E x.1→∃a:α,d.rep [] W a cs∧Q a) (h:dH enc W fuel S cs x) (hw:eU S x.1) :
  ∃(xs:List α) (A:Option Addr) (c:Nat),cs=[.slice A xs.length c]∧xs.length≤c∧d.Row [] W A xs∧(∀a,a∈xs→Q a)∧xs.length*Tryz.prog.bytesOf E≤reachBytes:=by
 rcases DataW.trod_slice hS h with ⟨rfl,rfl⟩ | ⟨a,len,cap,elems,rest,n,rfl,rfl,rfl,hb,hl,hm,hlen,hel',_,_⟩
 ·exact ⟨[],none,0,rfl,H_ _,aN.Row.nil _ _ _ _,fun a ha=>by simp at ha,by simp⟩
 ·unfold eU at hw
  simp only [DataW.weights,hS,List.all_cons,List.all_append,a_,decide_eq_true_eq,U_] at hw
  obtain ⟨hw0,hw1,_⟩:=hw
  have hmem:=pG _ hw1
  have hex:∀i,i<len→∃y:α,(∃cs',d.rep [] W y cs'∧∀j u,cs'[j]? = some u→W.cell? (a.add (i*d.sz+j))=some u)∧Q y:=by
   intro i hi
   have h1:=hel' i hi
   rw [R_ (by omega),Option.bind_eq_some_iff] at h1
   obtain ⟨cs',hc,ht⟩:=h1
   obtain ⟨y,hy1,hy2⟩:=hel n (o_ n) cs' _ ht (hmem _ (List.mem_map.2 ⟨_,g_ _,rfl⟩))
   obtain ⟨_,hcl,hat⟩:=World.cells?_some hc
   refine ⟨y,⟨cs',hy1,fun j u hu=>?_⟩,hy2⟩
   have hj:j<Tryz.prog.cellsOf E:=by rw [←hcl];exact (List.getElem?_eq_some_iff.1 hu).1
   have:=hat j hj
   rw [aN.add_add,hC] at this
   rw [this,hu]
  obtain ⟨g,hg⟩:∃g:Fin len→α,∀i:Fin len,(∃cs',d.rep [] W (g i) cs'∧∀j u,cs'[j]? = some u→W.cell? (a.add (i*d.sz+j))=some u)∧Q (g i):=
   ⟨fun i=>Classical.choose (hex i i.2),fun i=>Classical.choose_spec (hex i i.2)⟩
  refine ⟨List.ofFn g,some a,cap,by rw [List.length_ofFn],by rw [List.length_ofFn];exact hl,⟨?_,fun hn=>⟨a,rfl,by simp,?_,fun i hi=>?_⟩⟩,fun y hy=>?_,?_⟩
  ·rw [List.length_ofFn];unfold maxLen at hm;omega
  ·rw [List.length_ofFn] at hn
   obtain ⟨⟨cs',h1,h2⟩,_⟩:=hg ⟨0,hn⟩
   have hlen:=d.len h1
   have h3:=h2 0 (cs'[0]'(by omega)) (R_ _)
   have h4:=N_ W _ h3
   rwa [aN.block_add] at h4
  ·rw [List.length_ofFn] at hi
   rw [List.getElem_ofFn]
   exact (hg ⟨i,hi⟩).1
  ·obtain ⟨i,rfl⟩:=List.mem_ofFn.1 hy
   exact (hg i).2
  ·rw [List.length_ofFn]
   have:len*Tryz.prog.bytesOf E≤(elems.length+rest.length)*Tryz.prog.bytesOf E:=Nat.mul_le_mul_right _ (by omega)
   omega
theorem tA {t l} (h:eU (H:=H) t (.lit (.string l))):l.length≤reachBytes:=by
 unfold eU at h
 simpa [DataW.weights] using h
theorem AK {α:Type} {l:List α} (h:l.length=4):∃a b c d,l=[a,b,c,d]:=by
 match l,h with
 | [a,b,c,d],_=>exact ⟨a,b,c,d,rfl⟩
theorem BE {α:Type} {l:List α} (h:l.length=2):∃a b,l=[a,b]:=by
 match l,h with
 | [a,b],_=>exact ⟨a,b,rfl⟩
theorem eV:Tryz.prog.cellsOf 3=1:=by kernel_rfl
theorem dY:Tryz.prog.cellsOf 9=1:=by kernel_rfl
theorem Pp:Tryz.prog.cellsOf 39=1:=by kernel_rfl
theorem tB:Tryz.prog.cellsOf 41=4:=by kernel_rfl
theorem Fz {s:ByteArray} (h:s.data.toList.length≤reachBytes):s.size≤140737488355328:=by
 have h1:s.data.toList.length=s.size:=by simp
 unfold reachBytes at h
 omega
theorem Mf (fuel):∀(cs:List Value) (x:DataW H × List MemPlace),dH enc W fuel 41 cs x→eU 41 x.1 →
  ∃e:Ex,gU.rep [] W e cs∧dU e:=by
 induction fuel using Nat.strongRecOn with
 | _ fuel ih=>
  intro cs x h hw
  obtain ⟨xs,n,rfl,rfl,hl,hlen,hf⟩:=DataW.trod_struct underlying41 h
  rw [tB] at hl
  obtain ⟨v0,v1,v2,v3,rfl⟩:=AK hl
  obtain ⟨y0,y1,y2,y3,rfl⟩:=AK hlen
  have f0:dH enc W n 3 [v0] y0:=(by simpa [eV] using hf 0 _ rfl)
  have f1:dH enc W n 3 [v1] y1:=(by simpa [eV] using hf 1 _ rfl)
  have f2:dH enc W n 9 [v2] y2:=(by simpa [dY] using hf 2 _ rfl)
  have f3:dH enc W n 39 [v3] y3:=(by simpa [Pp] using hf 3 _ rfl)
  unfold eU at hw
  simp only [List.map_cons,List.map_nil,DataW.weights,underlying41,DataW.weightsEach,List.all_append,List.all_nil,Bool.and_true,a_] at hw
  obtain ⟨o,h0,hx0,w0⟩:=DataW.trod_int underlying3 f0
  obtain ⟨m,h1,hx1,w1⟩:=DataW.trod_int underlying3 f1
  obtain ⟨s,h2,hx2,_⟩:=DataW.trod_string underlying9 f2
  obtain ⟨ks,A,c,h3,hc,hr,hk,_⟩:=nF gU (Q:=dU) underlying39 tB (by decide) (fun n' hn' cs x hx hw=>ih n' (by omega) cs x hx hw) f3 hw.2.2.2
  simp only [List.cons.injEq,and_true] at h0 h1 h2 h3
  subst h0 h1 h2 h3
  have hs:s.size≤140737488355328:=Fz (tA (H:=H) (t:=9) (by have:=hw.2.2.1;rw [hx2] at this;exact this))
  exact ⟨.mk o m s ks,vR (e:=.mk o m s ks) hc hr,.mk (bounds_i64 w0) (bounds_i64 w1) hs hk⟩
end
section
variable {H : Type} {enc : TypeId × Value → H} {W : World}
theorem Jt:Tryz.prog.cellsOf 4=1:=by kernel_rfl
theorem lV:Tryz.prog.cellsOf 36=1:=by kernel_rfl
theorem oA:Tryz.prog.cellsOf 37=1:=by kernel_rfl
theorem At:Tryz.prog.cellsOf 38=1:=by kernel_rfl
theorem xZ:Tryz.prog.cellsOf 23=1:=by kernel_rfl
theorem Pq:Tryz.prog.cellsOf 24=1:=by kernel_rfl
theorem Ga:Tryz.prog.cellsOf 75=5:=by kernel_rfl
theorem Au:Tryz.prog.cellsOf 71=3:=by kernel_rfl
theorem Gb:Tryz.prog.cellsOf 43=9:=by kernel_rfl
theorem Aw:Tryz.prog.cellsOf 26=3:=by kernel_rfl
theorem Ct {α:Type} {l:List α} (h:l.length=3):∃a b c,l=[a,b,c]:=by
 match l,h with
 | [a,b,c],_=>exact ⟨a,b,c,rfl⟩
theorem AL {α:Type} {l:List α} (h:l.length=5):∃a b c d e,l=[a,b,c,d,e]:=by
 match l,h with
 | [a,b,c,d,e],_=>exact ⟨a,b,c,d,e,rfl⟩
theorem BF {α:Type} {l:List α} (h:l.length=6):∃a b c d e f,l=[a,b,c,d,e,f]:=by
 match l,h with
 | [a,b,c,d,e,f],_=>exact ⟨a,b,c,d,e,f,rfl⟩
theorem AM {α:Type} {l:List α} (h:l.length=9):∃a b c d e f g i j,l=[a,b,c,d,e,f,g,i,j]:=by
 match l,h with
 | [a,b,c,d,e,f,g,i,j],_=>exact ⟨a,b,c,d,e,f,g,i,j,rfl⟩
theorem Zh (n cs x) (h:dH enc W n 3 cs x) (_hw:eU 3 x.1):∃a:Int,(aN.int .i64).rep [] W a cs∧True:=by
 obtain ⟨o,h0,_,_⟩:=DataW.trod_int underlying3 h
 exact ⟨o,h0,trivial⟩
theorem yB (n cs x) (h:dH enc W n 9 cs x) (hw:eU 9 x.1):∃a:ByteArray,aN.str.rep [] W a cs∧a.size≤140737488355328:=by
 obtain ⟨s,h0,hx,_⟩:=DataW.trod_string underlying9 h
 exact ⟨s,h0,Fz (tA (H:=H) (t:=9) (by rw [hx] at hw;exact hw))⟩
theorem Zi (fuel cs x) (h:dH enc W fuel 71 cs x) (hw:eU 71 x.1):∃p:oF,kE.rep [] W p cs∧(p.name.size≤140737488355328∧oT p.n):=by
 obtain ⟨xs,n,rfl,rfl,hl,hlen,hf⟩:=DataW.trod_struct underlying71 h
 rw [Au] at hl
 obtain ⟨v0,v1,v2,rfl⟩:=Ct hl
 obtain ⟨y0,y1,y2,rfl⟩:=Ct hlen
 have f0:dH enc W n 9 [v0] y0:=(by simpa [dY] using hf 0 _ rfl)
 have f1:dH enc W n 3 [v1] y1:=(by simpa [eV,dY] using hf 1 _ rfl)
 have f2:dH enc W n 4 [v2] y2:=(by simpa [eV,dY,Jt] using hf 2 _ rfl)
 unfold eU at hw
 simp only [List.map_cons,List.map_nil,DataW.weights,underlying71,DataW.weightsEach,List.all_append,List.all_nil,Bool.and_true,a_] at hw
 obtain ⟨s,h0,hs⟩:=yB n _ _ f0 hw.1
 obtain ⟨m,h1,_,w1⟩:=DataW.trod_int underlying3 f1
 obtain ⟨b,h2,_⟩:=DataW.trod_bool underlying4 f2
 have h0':[v0]=[Value.string s]:=h0
 simp only [List.cons.injEq,and_true] at h0' h1 h2
 subst h0' h1 h2
 exact ⟨⟨s,m,b⟩,⟨[_],_,rfl,rfl,[_],_,rfl,rfl,rfl⟩,hs,bounds_i64 w1⟩
theorem AO (fuel cs x) (h:dH enc W fuel 75 cs x) (hw:eU 75 x.1):∃a:Ar,oH.rep [] W a cs∧(a.name.size≤140737488355328∧dU a.e):=by
 obtain ⟨xs,n,rfl,rfl,hl,hlen,hf⟩:=DataW.trod_struct underlying75 h
 rw [Ga] at hl
 obtain ⟨v0,v1,v2,v3,v4,rfl⟩:=AL hl
 obtain ⟨y0,y1,rfl⟩:=BE hlen
 have f0:dH enc W n 9 [v0] y0:=(by simpa [dY] using hf 0 _ rfl)
 have f1:dH enc W n 41 [v1,v2,v3,v4] y1:=(by simpa [tB,dY] using hf 1 _ rfl)
 unfold eU at hw
 simp only [List.map_cons,List.map_nil,DataW.weights,underlying75,DataW.weightsEach,List.all_append,List.all_nil,Bool.and_true,a_] at hw
 obtain ⟨s,h0,hs⟩:=yB n _ _ f0 hw.1
 obtain ⟨e,h1,he⟩:=Mf n _ _ f1 hw.2
 have h0':[v0]=[Value.string s]:=h0
 simp only [List.cons.injEq,and_true] at h0'
 subst h0'
 exact ⟨⟨s,e⟩,⟨[_],_,rfl,rfl,h1⟩,hs,he⟩
theorem AP (fuel cs x) (h:dH enc W fuel 43 cs x) (hw:eU 43 x.1):∃a:Nd,yS.rep [] W a cs∧Wx a:=by
 obtain ⟨xs,n,rfl,rfl,hl,hlen,hf⟩:=DataW.trod_struct underlying43 h
 rw [Gb] at hl
 obtain ⟨v0,v1,v2,v3,v4,v5,v6,v7,v8,rfl⟩:=AM hl
 obtain ⟨y0,y1,y2,y3,y4,y5,rfl⟩:=BF hlen
 have f0:dH enc W n 3 [v0] y0:=(by simpa [eV] using hf 0 _ rfl)
 have f1:dH enc W n 36 [v1] y1:=(by simpa [eV,lV] using hf 1 _ rfl)
 have f2:dH enc W n 37 [v2] y2:=(by simpa [eV,lV,oA] using hf 2 _ rfl)
 have f3:dH enc W n 9 [v3] y3:=(by simpa [eV,lV,oA,dY] using hf 3 _ rfl)
 have f4:dH enc W n 38 [v4] y4:=(by simpa [eV,lV,oA,dY,At] using hf 4 _ rfl)
 have f5:dH enc W n 41 [v5,v6,v7,v8] y5:=(by simpa [eV,lV,oA,dY,At,tB] using hf 5 _ rfl)
 unfold eU at hw
 simp only [List.map_cons,List.map_nil,DataW.weights,underlying43,DataW.weightsEach,List.all_append,List.all_nil,Bool.and_true,a_] at hw
 obtain ⟨w0,w1,w2,w3,w4,w5⟩:=hw
 obtain ⟨o,h0,_,_⟩:=DataW.trod_int underlying3 f0
 obtain ⟨ks,kA,kc,h1,hk1,hk2,_,_⟩:=nF (aN.int .i64) (Q:=fun _=>True) underlying36 eV (by decide) (fun n' _ cs x hx hw=>Zh n' cs x hx hw) f1 w1
 obtain ⟨us,uA,uc,h2,hu1,hu2,hu3,_⟩:=nF aN.str (Q:=fun s=>s.size≤140737488355328) underlying37 dY (by decide) (fun n' _ cs x hx hw=>yB n' cs x hx hw) f2 w2
 obtain ⟨s,h3,hs⟩:=yB n _ _ f3 w3
 obtain ⟨al,gA,gc,h4,hg1,hg2,hg3,_⟩:=nF oH (Q:=fun a=>a.name.size≤140737488355328∧dU a.e) underlying38 Ga (by decide) (fun n' _ cs x hx hw=>AO n' cs x hx hw) f4 w4
 obtain ⟨e,h5,he⟩:=Mf n _ _ f5 w5
 obtain ⟨eA,ec,hecs,hec,her⟩:=oR h5
 have h3':[v3]=[Value.string s]:=h3
 simp only [List.cons.injEq,and_true] at h0 h1 h2 h3' h4 hecs
 obtain ⟨rfl,rfl,rfl,rfl⟩:=hecs
 subst h0 h1 h2 h3' h4
 exact ⟨⟨o,ks,us,s,al,e⟩,⟨⟨⟨o,ks,us,s,al,e⟩,kA,kc,uA,uc,gA,gc,eA,ec⟩,rfl,rfl,⟨hk1,hk2⟩,⟨hu1,hu2⟩,⟨hg1,hg2⟩,hec,her⟩,⟨hs,hu3,hg3,he⟩⟩
theorem Mg {α:Type} {d:aN α} {A:Option Addr} {c:Nat} {xs:List α} (h1:xs.length≤c) (h2:d.Row [] W A xs):aO d (fun _=>False) W A c xs:=⟨h1,fun _ hM=>h2.less (fun k hk=>(hM k hk).elim)⟩
theorem Xm {r b0 v d ps} (hv:Value.okWide prog W r b0 26 v) (h:DataW.Trod enc prog W 0 (fun _=>true) true 26 v d ps) (hw:eU 26 d) :
  ∃(x:tL) (pA:Option Addr) (pc:Nat) (nA:Option Addr) (nc:Nat),v=iG x pA pc nA nc∧kI (fun _=>False) W x pA pc nA nc∧Sv x:=by
 have hst:=okWide_struct (P:=prog) (w:=W) (r:=r) (base:=b0) (t:=26) (v:=v) underlying26 hv
 rw [Aw] at hst
 obtain ⟨⟨cs⟩,rfl,hsz⟩:=hst
 clear hsz
 obtain ⟨fuel,hf0⟩:=h
 have hf':dH enc W fuel 26 cs (d,ps):=hf0
 obtain ⟨xs,n,hx,hd,hl,hlen,hf⟩:=DataW.trod_struct underlying26 hf'
 simp only [Prod.mk.injEq] at hd
 rw [Aw] at hl
 obtain ⟨v0,v1,v2,rfl⟩:=Ct hl
 obtain ⟨y0,y1,y2,rfl⟩:=Ct hlen
 obtain ⟨rfl,_⟩:=hd
 have f0:dH enc W n 9 [v0] y0:=(by simpa [dY] using hf 0 _ rfl)
 have f1:dH enc W n 23 [v1] y1:=(by simpa [dY,xZ] using hf 1 _ rfl)
 have f2:dH enc W n 24 [v2] y2:=(by simpa [dY,xZ,Pq] using hf 2 _ rfl)
 unfold eU at hw
 simp only [List.map_cons,List.map_nil,DataW.weights,underlying26,DataW.weightsEach,List.all_append,List.all_nil,Bool.and_true,a_] at hw
 obtain ⟨s,h0,hs⟩:=yB n _ _ f0 hw.1
 obtain ⟨pl,pA,pc,h1,hp1,hp2,hp3,_⟩:=nF kE (Q:=fun p=>p.name.size≤140737488355328∧oT p.n) underlying23 Au (by decide) (fun n' _ cs x hx hw=>Zi n' cs x hx hw) f1 hw.2.1
 obtain ⟨nl,nA,nc,h2,hn1,hn2,hn3,_⟩:=nF yS (Q:=Wx) underlying24 Gb (by decide) (fun n' _ cs x hx hw=>AP n' cs x hx hw) f2 hw.2.2
 have h0':[v0]=[Value.string s]:=h0
 simp only [List.cons.injEq,and_true] at h0' h1 h2
 subst h0' h1 h2
 exact ⟨⟨s,pl,nl⟩,pA,pc,nA,nc,rfl,⟨Mg hp1 hp2,Mg hn1 hn2⟩,⟨hs,hp3,hn3⟩⟩
end
end Go.Proofs.YtgcfjkfipkfijaaGreatDoor
