/- Part 12 of the proof of rtrees_card; no conditions. -/
import Derived.Test.YtgcfjkfipkfijaaGreatDoorTr01
import Derived.Test.YtgcfjkfipkfijaaGreatDoorTr09
import Derived.Deep.AppendLies
import Derived.Deep.CutBlock
import Derived.Deep.DeepCutAuto
set_option maxRecDepth 100000
set_option maxHeartbeats 8000000
namespace Go.Proofs.YtgcfjkfipkfijaaGreatDoor
open Go Go.RowKit Go.Lib _root_.Go.Proofs.Tryz
variable {α : Type}
def aO (d:aN α) (P:Nat→Prop) (w:World) (B:Option Addr) (b:Nat) (xs:List α):Prop:=xs.length≤b∧∀M:List Nat,(∀k,k∈M→P k)→d.Row M w B xs
theorem aO.nil (d:aN α) (P:Nat→Prop) (w:World) (B:Option Addr) (b:Nat):aO d P w B b []:=⟨h_ _,fun _ _=>aN.Row.nil _ _ _ _⟩
theorem aO.keep {d:aN α} {P:Nat→Prop} {w w':World} {B:Option Addr} {b:Nat} {xs:List α} {M:List Nat} (h:aO d P w B b xs) (hs:Same M w w') (hM:∀k,k∈M→P k):aO d P w' B b xs:=
 ⟨h.1,fun M' hM'=>by
  have h1:=h.2 (M++M') (fun k hk=>(G_ hk).elim (hM k) (hM' k))
  exact (h1.keep (hs.mono (fun x hx=>List.mem_append.2 (.inl hx)))).less (fun k hk=>.inl (List.mem_append.2 (.inr hk)))⟩
theorem aO.below {d:aN α} {P:Nat→Prop} {w w':World} {B:Option Addr} {b:Nat} {xs:List α} (h:aO d P w B b xs) (hs:Below w.heap.size w w'):aO d P w' B b xs:=h.keep (M:=[]) (Same.of_below hs) (fun _ hk=>by simp at hk)
theorem wH {P Q:Nat→Prop} {w:World} {R:List Nat→Prop} (hR:∀{M M'},R M→(∀k,k∈M'→k∈M∨w.heap.size≤k)→R M') (h:∀M:List Nat,(∀k,k∈M→P k)→R M) (hq:∀k,Q k→P k∨w.heap.size≤k) :
  ∀M:List Nat,(∀k,k∈M→Q k)→R M:=by
 classical
 exact fun M hM=>hR (h (M.filter (fun k=>decide (P k))) (fun k hk=>by simpa using (List.mem_filter.1 hk).2)) (fun k hk=>(hq k (hM k hk)).elim (fun hp=>.inl (List.mem_filter.2 ⟨hk,by simpa using hp⟩)) .inr)
theorem aO.more {d:aN α} {P Q:Nat→Prop} {w:World} {B:Option Addr} {b:Nat} {xs:List α} (h:aO d P w B b xs) (hq:∀k,Q k→P k∨w.heap.size≤k):aO d Q w B b xs:=
 ⟨h.1,wH (R:=fun M=>d.Row M w B xs) (fun h1 h2=>h1.less h2) h.2 hq⟩
def Av (d:aN α) (P:Nat→Prop) (w:World) (x:α) (cs:List Value):Prop:=∀M:List Nat,(∀k,k∈M→P k)→d.rep M w x cs
theorem Av.keep {d P w w'} {x:α} {cs M} (h:Av d P w x cs) (hs:Same M w w') (hM:∀k,k∈M→P k):Av d P w' x cs:=fun M' hM'=>by
 have h1:=h (M++M') (fun k hk=>(G_ hk).elim (hM k) (hM' k))
 exact d.less (d.keep h1 (hs.mono (fun x hx=>List.mem_append.2 (.inl hx)))) (fun k hk=>.inl (List.mem_append.2 (.inr hk)))
theorem Av.below {d P w w'} {x:α} {cs} (h:Av d P w x cs) (hs:Below w.heap.size w w'):Av d P w' x cs:=h.keep (M:=[]) (Same.of_below hs) (fun _ hk=>by simp at hk)
theorem Av.more {d P Q w} {x:α} {cs} (h:Av d P w x cs) (hq:∀k,Q k→P k∨w.heap.size≤k):Av d Q w x cs:=
 wH (R:=fun M=>d.rep M w x cs) (fun h1 h2=>d.less h1 h2) h hq
structure aR (d:aN α) (T:TypeId) (b0:Nat) (P:Nat→Prop) (w:World) (B:Option Addr) (n b:Nat) (xs:List (α × List Value)):Prop where
 len:xs.length=n
 own:w.ownsRow b0 T d.sz (.slice B n b) n (xs.flatMap (·.2))
 els:∀q,q∈xs→Av d (fun k=>P k∨(Value.slice B n b).ownBlock=some k) w q.1 q.2
theorem dQ {w w1 base M e size v n xs} (h:w.ownsRow base e size v n xs) (hs:Same M w w1) (hM:∀k,k∈M→v.ownBlock≠some k):w1.ownsRow base e size v n xs:=by
 refine ⟨h.1,?_⟩
 rcases h.2 with h' | ⟨g,cap,cur,hv,hg,hh,r⟩
 ·exact .inl h'
 ·exact .inr ⟨g,cap,cur,hv,hg,hs.heap (fun hc=>hM _ hc (by rw [hv];rfl)) hh,r⟩
namespace aR
variable {d : aN α} {T : TypeId} {b0 : Nat} {P Q : Nat → Prop} {w w' : World} {B : Option Addr} {n b : Nat} {xs : List (α × List Value)}
theorem nil (d:aN α) (T:TypeId) (b0:Nat) (P:Nat→Prop) (w:World):aR d T b0 P w none 0 0 []:=⟨rfl,⟨by simp,.inl ⟨rfl,rfl⟩⟩,fun q hq=>by simp at hq⟩
theorem keep {M} (h:aR d T b0 P w B n b xs) (hs:Same M w w') (hM:∀k,k∈M→P k) (hM':∀k,k∈M→(Value.slice B n b).ownBlock≠some k):aR d T b0 P w' B n b xs:=
 ⟨h.len,dQ h.own hs hM',fun q hq=>(h.els q hq).keep hs (fun k hk=>.inl (hM k hk))⟩
theorem below (h:aR d T b0 P w B n b xs) (hs:Below w.heap.size w w'):aR d T b0 P w' B n b xs:=h.keep (M:=[]) (Same.of_below hs) (fun _ hk=>by simp at hk) (fun _ hk=>by simp at hk)
theorem more (h:aR d T b0 P w B n b xs) (hq:∀k,Q k→P k∨w.heap.size≤k):aR d T b0 Q w B n b xs:=
 ⟨h.len,h.own,fun q hq'=>(h.els q hq').more (fun k hk=>hk.elim (fun hk=>(hq k hk).elim (fun hp=>.inl (.inl hp)) .inr) (fun he=>.inl (.inr he)))⟩
theorem blk (h:aR d T b0 P w B n b xs) (k) (hk:(Value.slice B n b).ownBlock=some k):b0≤k∧k<w.heap.size:=aS h.own k hk
theorem push {w6 g cap} {x:α} {vs ob} (h:aR d T b0 P w B n b xs) (hx:Av d (fun k=>P k∨(Value.slice B n b).ownBlock=some k) w x vs) (hg:(w.alloc ob).grownBy w6 (Value.slice B n b).ownBlock) (hown:w6.ownsRow b0 T d.sz (.slice (some ⟨g,0,none⟩) (n+1) cap) (n+1) (xs.flatMap (·.2)++vs)) (hat:(Value.slice B n b).ownBlock=some g∨g=w.heap.size+1):aR d T b0 P w6 (some ⟨g,0,none⟩) (n+1) cap (xs++[(x,vs)]):=by
 refine ⟨by rw [O_,h.len];rfl,by rw [q_];simpa using hown,fun q hq=>?_⟩
 have hA:Av d (fun k=>P k∨(Value.slice B n b).ownBlock=some k) w q.1 q.2:=by
  rcases G_ hq with hq | hq
  ·exact h.els q hq
  ·simp at hq;subst hq;exact hx
 have h1:Av d (fun k=>(P k∨(Value.slice B n b).ownBlock=some k)∨k=g) w q.1 q.2:=hA.more (fun k hk=>hk.elim .inl (fun e=>by
  rcases hat with hat | hat
  ·exact .inl (.inr (by rw [hat,e]))
  ·exact .inr (by omega)))
 have h2:=(h1.below ((J_ w.heap.size w).alloc le_ ob)).keep (M:=(Value.slice B n b).ownBlock.toList) ((Same.refl _ _).grown hg (fun k hk=>.inl (by rw [hk];simp))) (fun k hk=>.inl (.inr (by simpa using hk)))
 exact h2.more (fun k hk=>.inl (hk.elim (fun hp=>.inl (.inl hp)) (fun he=>.inr (by have:some g=some k:=he;exact (e_ this).symm))))
theorem out (h:aR d T b0 P w B n b xs) (hP:∀k,P k→k<b0) (hl:∀q,q∈xs→q.2.length=d.sz):aO d P w B b (xs.map (·.1)):=by
 have hl':=h.len
 rcases h.own.2 with ⟨h',h0⟩ | ⟨g,cap,cur,hv,hg,hh,h1,h2,h3,h4⟩
 ·have:xs=[]:=X_ (by omega)
  subst this
  exact aO.nil _ _ _ _ _
 ·injection hv with e1 _ e3
  subst e1 e3
  refine ⟨by rw [U_];omega,fun M hM=>⟨by rw [U_];simp only [maxLen] at h2;omega,fun hn=>⟨⟨g,0,none⟩,rfl,fun hc=>?_,(C_ hh).1,fun i hi=>?_⟩⟩⟩
  ·have:=hP _ (hM _ hc)
   simp at this
   omega
  ·have hi':i<xs.length:=by simpa using hi
   have hx:=h.els _ (g_ hi')
   refine ⟨xs[i].2,by rw [List.getElem_map];exact hx M (fun k hk=>.inl (hM k hk)),fun j u hu=>?_⟩
   have hj:j<d.sz:=by rw [←hl _ (g_ hi')];exact (List.getElem?_eq_some_iff.1 hu).1
   exact h.own.cells (g:=g) rfl (i*d.sz+j) u (by rw [flat_at xs d.sz hl i j hi' hj];exact hu)
where flat_at:∀(xs:List (α × List Value)) (m:Nat),(∀q,q∈xs→q.2.length=m)→∀(i j:Nat) (h:i<xs.length),j<m→(xs.flatMap (·.2))[i*m+j]? = xs[i].2[j]?
 | x::l,m,hf,0,j,_,hj=>by
  rw [i_,Nat.zero_mul,Nat.zero_add,List.getElem?_append_left (by rw [hf x (by simp)];exact hj)]
  rfl
 | x::l,m,hf,i+1,j,h,hj=>by
  rw [i_,List.getElem?_append_right (by rw [hf x (by simp),Nat.succ_mul];omega),hf x (by simp)]
  have:(i+1)*m+j - m=i*m+j:=by rw [Nat.succ_mul];omega
  rw [this,flat_at l m (fun q hq=>hf q (by simp [hq])) i j (by simpa using h) hj]
  rfl
end aR
theorem cL {Pr ops rest o a Q d e b0 P w B n b xs} (hgd:o.guard=none) (s x t) (ho:o.op=.call { callee:=.builtin .append,args:=#[s,x],argTypes:=#[t,t] }) (z bytes) (ht:Pr.underlying t=some (.slice e)) (hi:(Pr.info? e).map (fun i=>(i.zero,i.size,i.bytes))=some (some z,d.sz,bytes)) (hzs:z.cells.size=d.sz) (hsz:0<d.sz) (hs:a.eval s=.slice B n b) (h:aR d e b0 P w B n b xs) (y:α) (cs ty) (hx:a.eval x=.slice (some ⟨w.heap.size,0,none⟩) 1 1) (hl:cs.size=d.sz) (h1:∀u∈cs.toList,u.oneCell'=true) (hy:Av d (fun k=>P k∨(Value.slice B n b).ownBlock=some k) w y cs.toList) (h63:n+1≤maxLen) (hbytes:(n+1)*bytes≤140737488355328) (hb0:b0≤w.heap.size) (k:∀g cap w',aR d e b0 P w' (some ⟨g,0,none⟩) (n+1) cap (xs++[(y,cs.toList)])→Same (Value.slice B n b).ownBlock.toList w w'→b0≤g∧g<w'.heap.size∧((Value.slice B n b).ownBlock=some g∨w.heap.size<g) →
    wpList Pr ops Q rest (a.put o.dst (.slice (some ⟨g,0,none⟩) (n+1) cap)) w'):wpList Pr ops Q (o::rest) a (w.alloc (.cells cs ty)):=by
 obtain ⟨i0,hi0,hz0,hz1,hz2⟩:=info_parts hi
 refine wpList_append_lies _ hgd s x t ho b0 e i0 z d.sz bytes ht hi0 hz0 hz1 hz2 hzs hsz (.slice B n b) n (xs.flatMap (·.2)) hs (h.own.alloc _) ⟨w.heap.size,0,none⟩ 1 1 cs.toList hx (by rw [Nat.one_mul];simpa using hl) ?_ h1 (by decide) h63 hbytes (by simp;omega) (w.heap.size+1) (by simp) ?_
 ·intro j u hu
  have:=aB (I_ w (.cells cs ty)) j
  have e:(⟨w.heap.size,0,none⟩:Addr).add j=⟨w.heap.size,j,none⟩:=by unfold Addr.add;split <;> simp_all
  rw [e,this]
  simpa using hu
 ·intro g cap w6 hown hg hat hlt
  have hgb:=aS hown g rfl
  have hs6:Same (Value.slice B n b).ownBlock.toList w w6:=((Same.refl _ w).alloc _).grown hg (fun k hk=>.inl (by rw [hk];simp))
  exact k g cap w6 (h.push hy hg hown hat) hs6 ⟨hgb.1,hgb.2,hat.imp id (fun e=>by omega)⟩
def sE (s:ByteArray):ByteArray × List Value:=(s,[.string s])
theorem Av.str (P w s):Av aN.str P w s [.string s]:=fun _ _=>rfl
theorem Bz:∀ss:List ByteArray,(ss.map sE).flatMap (·.2)=ss.map (Value.string ·)
 | []=>rfl
 | y::ys=>by rw [List.map_cons,i_,Bz ys];rfl
theorem aR.strs {T b0 P w B n b ss} (h:aR aN.str T b0 P w B n b (ss.map sE)):mJ w B ss:=by
 have hl:=h.len
 rw [U_] at hl
 rcases h.own.2 with ⟨h',h0⟩ | ⟨g,cap,cur,hv,hg,hh,h1,h2,h3,h4⟩
 ·have:ss=[]:=X_ (by omega)
  subst this
  exact mJ.nil _ _
 ·injection hv with e1 _ e3
  subst e1 e3
  refine ⟨by simp only [maxLen] at h2;omega,fun _=>⟨g,0,rfl,fun j hj=>?_⟩⟩
  have e:=Bz ss
  have:=h.own.cells (g:=g) rfl j (.string (ss.getD j ByteArray.empty)) (by rw [e];simp [R_ hj])
  rw [Nat.zero_add]
  by_cases hj0:j=0
  ·subst hj0;exact this
  ·simpa [Addr.add,hj0] using this
end Go.Proofs.YtgcfjkfipkfijaaGreatDoor
namespace Go.Proofs.YtgcfjkfipkfijaaGreatDoor
open Go Go.RowKit Go.Lib _root_.Go.Proofs.Tryz
def kE:aN oF:=aN.iso (.pair .str (.pair (.int .i64) .bool)) (fun p=>(p.name,p.n,p.scaled))
def yZ (p:oF):oF × List Value:=(p,[.string p.name,.int .i64 p.n,.bool p.scaled])
theorem Av.prm (P w p):Av kE P w p [.string p.name,.int .i64 p.n,.bool p.scaled]:=fun _ _=>⟨[_],_,rfl,rfl,[_],_,rfl,rfl,rfl⟩
theorem aR.keepV {α:Type} {d:aN α} {T:TypeId} {b0:Nat} {P:Nat→Prop} {w w':World} {B:Option Addr} {n b:Nat} {xs:List (α × List Value)} {M:List Nat} (h:aR d T b0 P w B n b xs) (hv:∀q,q∈xs→∀P w,Av d P w q.1 q.2) (hs:Same M w w')
  (hM':∀k,k∈M→(Value.slice B n b).ownBlock≠some k):aR d T b0 P w' B n b xs:=⟨h.len,dQ h.own hs hM',fun q hq=>hv q hq _ _⟩
theorem aR.keepP {T:TypeId} {b0:Nat} {P:Nat→Prop} {w w':World} {B:Option Addr} {n b:Nat} {ps:List oF} {M:List Nat} (h:aR kE T b0 P w B n b (ps.map yZ)) (hs:Same M w w')
  (hM':∀k,k∈M→(Value.slice B n b).ownBlock≠some k):aR kE T b0 P w' B n b (ps.map yZ):=h.keepV (fun q hq P w=>by obtain ⟨p,_,rfl⟩:=List.mem_map.1 hq;exact Av.prm P w p) hs hM'
theorem aR.keepS {T:TypeId} {b0:Nat} {P:Nat→Prop} {w w':World} {B:Option Addr} {n b:Nat} {ss:List ByteArray} {M:List Nat} (h:aR aN.str T b0 P w B n b (ss.map sE)) (hs:Same M w w')
  (hM':∀k,k∈M→(Value.slice B n b).ownBlock≠some k):aR aN.str T b0 P w' B n b (ss.map sE):=h.keepV (fun q hq P w=>by obtain ⟨p,_,rfl⟩:=List.mem_map.1 hq;exact Av.str P w p) hs hM'
theorem gM:(Tryz.prog.info? 9).map (fun i=>(i.zero,i.size,i.bytes))=some (some (.string ⟨#[]⟩),1,16):=by kernel_rfl
theorem Ed:(Tryz.prog.info? 71).map (fun i=>(i.zero,i.size,i.bytes))=some (some (.agg #[.string ⟨#[]⟩,.int .i64 0,.bool false]),3,32):=by kernel_rfl
structure Ca (l:List bQ) (g:Nat) (A:Option Addr) (c:Nat) (w0 wr:World) (B:Option Addr) (b:Nat) (V:Option Addr) (v:Nat) (ps:List oF) (s:RS):Prop where
 rows:aR kE 71 w0.heap.size (fun k=>k<w0.heap.size) wr B ps.length b (ps.map yZ)
 names:aR aN.str 9 w0.heap.size (fun k=>k<w0.heap.size) wr V ps.length v ((ps.map (·.name)).map sE)
 apart:∀k,(Value.slice B ps.length b).ownBlock=some k→(Value.slice V ps.length v).ownBlock≠some k
 rdr:mL l g A c wr s
 same:Same [g] w0 wr
def Lg (g:Nat) (A:Option Addr) (n c:Nat) (p:List oF × RS) (w:World) (r:Ending) (w':World):Prop:=
 ∃B b,r=.returned (.slice B p.1.length b)∧aO kE (fun k=>k<w.heap.size) w' B b p.1∧zJ w' g A n c p.2∧Same [g] w w'
theorem Ca.post {l g c b v A B V w0 wr ps s} (h:Ca l g A c w0 wr B b V v ps s):Lg g A l.length c (ps,s) w0 (.returned (.slice B ps.length b)) wr:=by
 have h1:=h.rows.out (fun _ h=>h) (fun q hq=>by obtain ⟨p,_,rfl⟩:=List.mem_map.1 hq;rfl)
 rw [List.map_map,show ((fun q:oF × List Value=>q.1) ∘ yZ)=id from rfl,List.map_id] at h1
 exact ⟨B,b,rfl,h1,h.rdr.rd,h.same⟩
theorem Ca.step {l g c b v A B V w0 wr w' ps s s'} (h:Ca l g A c w0 wr B b V v ps s) (hg:g<w0.heap.size) (hs:Same [g] wr w') (hr:zJ w' g A l.length c s') (hi:iY l s'):Ca l g A c w0 w' B b V v ps s':=
 ⟨h.rows.keepP hs (fun k hk e=>by simp at hk;have:=(h.rows.blk k e).1;omega),h.names.keepS hs (fun k hk e=>by simp at hk;have:=(h.names.blk k e).1;omega),h.apart,h.rdr.next hr hs hi,h.same.then_ hs⟩
structure qW (l:List bQ) (g:Nat) (A:Option Addr) (c:Nat) (w0 wr:World) (B:Option Addr) (b:Nat) (V:Option Addr) (v:Nat) (ps:List oF) (K:Nat) (p:oF) (s:RS):Prop where
 rows:aR kE 71 w0.heap.size (fun k=>k<w0.heap.size) wr B ps.length b (ps.map yZ)
 names:aR aN.str 9 w0.heap.size (fun k=>k<w0.heap.size) wr V (ps.length+1) v ((ps.map (·.name)++[p.name]).map sE)
 apart:∀k,(Value.slice B ps.length b).ownBlock=some k→(Value.slice V (ps.length+1) v).ownBlock≠some k
 box:wr.heap[K]? = some (.cells #[.string p.name,.int .i64 p.n,.bool p.scaled] 71 (0,0))
 far:w0.heap.size≤K∧(Value.slice B ps.length b).ownBlock≠some K∧(Value.slice V (ps.length+1) v).ownBlock≠some K
 rdr:mL l g A c wr s
 same:Same [g] w0 wr
 lt:g<w0.heap.size
 row:cN.Row [g] w0 A l
section
variable {l : List bQ} {g c b v K : Nat} {A B V : Option Addr} {w0 wr w' : World} {ps : List oF} {p : oF} {s s' : RS}
theorem qW.step (h:qW l g A c w0 wr B b V v ps K p s) (hs:Same [g] wr w') (hr:zJ w' g A l.length c s') (hi:iY l s'):qW l g A c w0 w' B b V v ps K p s':=
 have hg:=h.lt
 ⟨h.rows.keepP hs (fun k hk e=>by simp at hk;have:=(h.rows.blk k e).1;omega),h.names.keepS hs (fun k hk e=>by simp at hk;have:=(h.names.blk k e).1;omega),h.apart,hs.heap (by have:=h.far.1;simp;omega) h.box,h.far,h.rdr.next hr hs hi,h.same.then_ hs,h.lt,h.row⟩
theorem qW.below (h:qW l g A c w0 wr B b V v ps K p s) (hb:Below wr.heap.size wr w'):qW l g A c w0 w' B b V v ps K p s:=h.step (Same.of_below hb) (h.rdr.step hb).rd h.rdr.inr
theorem qW.put (h:qW l g A c w0 wr B b V v ps K p s) (i x q) (hq:q.name=p.name) (hx:(#[.string p.name,.int .i64 p.n,.bool p.scaled]:Array Value).setIfInBounds i x=#[.string q.name,.int .i64 q.n,.bool q.scaled]):qW l g A c w0 (wr.setCell ⟨K,i,none⟩ x) B b V v ps K q s:=by
 have hs:Same [K] wr (wr.setCell ⟨K,i,none⟩ x):=(Same.refl [K] wr).setCell (.inl (by simp)) _
 have hg:=h.lt
 have hf:=h.far
 have hs0:=h.same.setCell (p:=⟨K,i,none⟩) (.inr hf.1) x
 refine ⟨h.rows.keepP hs (fun k hk e=>by simp at hk;subst hk;exact hf.2.1 e),by rw [hq];exact h.names.keepS hs (fun k hk e=>by simp at hk;subst hk;exact hf.2.2 e),h.apart,?_,hf,?_,hs0,hg,h.row⟩
 ·rw [←hx];exact aZ h.box i x
 ·exact ⟨hs.heap (by simp;omega) h.rdr.rd,h.row.keep hs0,h.rdr.cap,h.rdr.inr⟩
theorem Ca.named {g2 cap w5 w6 nm} (h:Ca l g A c w0 w5 B b V v ps s) (hg:g<w0.heap.size) (hrow:cN.Row [g] w0 A l) (hk:w5.heap[K]? = some (.cells #[.string nm,.int .i64 0,.bool false] 71 (0,0))∧w0.heap.size≤K∧(∀k,(Value.slice B ps.length b).ownBlock=some k→k<K)∧(∀k,(Value.slice V ps.length v).ownBlock=some k→k<K)) (hG:aR aN.str 9 w0.heap.size (fun k=>k<w0.heap.size) w6 (some ⟨g2,0,none⟩) (ps.length+1) cap ((ps.map (·.name)).map sE++[(nm,[.string nm])])) (hS:Same (Value.slice V ps.length v).ownBlock.toList w5 w6) (hg2:w0.heap.size≤g2∧g2<w6.heap.size∧((Value.slice V ps.length v).ownBlock=some g2∨w5.heap.size<g2)):qW l g A c w0 w6 B b (some ⟨g2,0,none⟩) cap ps K ⟨nm,0,false⟩ s:=by
 obtain ⟨hk,hK,hkB,hkV⟩:=hk
 have hS0:Same [g] w0 w6:=h.same.trans hS (fun x hx=>.inr (h.names.blk x (by simpa using hx)).1)
 have hkl:=aC hk
 refine ⟨h.rows.keepP hS (fun k hk e=>h.apart k e (by simpa using hk)),?_,fun k hk e=>?_,hS.heap (fun hc=>by have:=hkV K (by simpa using hc);omega) hk,⟨hK,fun e=>by have:=hkB K e;omega,fun e=>?_⟩,?_,hS0,hg,hrow⟩
 ·rw [f_];exact hG
 ·obtain rfl:g2=k:=by have:some g2=some k:=e;exact e_ this
  rcases hg2.2.2 with h1 | h1
  ·exact h.apart g2 hk h1
  ·have:=(h.rows.blk g2 hk).2;omega
 ·obtain rfl:g2=K:=by have:some g2=some K:=e;exact e_ this
  rcases hg2.2.2 with h1 | h1
  ·have:=hkV g2 h1;omega
  ·omega
 ·exact ⟨hS.heap (fun hc=>by have:=(h.names.blk g (by simpa using hc)).1;omega) h.rdr.rd,hrow.keep hS0,h.rdr.cap,h.rdr.inr⟩
theorem qW.done {g3 cap3 w6} (h:qW l g A c w0 wr B b V v ps K p s) (hG:aR kE 71 w0.heap.size (fun k=>k<w0.heap.size) w6 (some ⟨g3,0,none⟩) (ps.length+1) cap3 (ps.map yZ++[(p,[.string p.name,.int .i64 p.n,.bool p.scaled])])) (hS:Same (Value.slice B ps.length b).ownBlock.toList wr w6) (hg3:w0.heap.size≤g3∧g3<w6.heap.size∧((Value.slice B ps.length b).ownBlock=some g3∨wr.heap.size<g3)):Ca l g A c w0 w6 (some ⟨g3,0,none⟩) cap3 V v (ps++[p]) s:=by
 have hl:(ps++[p]).length=ps.length+1:=by simp
 have hlt:=h.lt
 have hS0:Same [g] w0 w6:=h.same.trans hS (fun x hx=>.inr (h.rows.blk x (by simpa using hx)).1)
 refine ⟨by rw [hl,f_];exact hG,?_,fun k hk e=>?_,⟨hS.heap (fun hc=>by have:=(h.rows.blk g (by simpa using hc)).1;omega) h.rdr.rd,h.row.keep hS0,h.rdr.cap,h.rdr.inr⟩,hS0⟩
 ·rw [hl,f_]
  exact h.names.keepS hS (fun k hk e=>h.apart k (by simpa using hk) e)
 ·rw [hl] at hk e
  obtain rfl:g3=k:=by have:some g3=some k:=hk;exact e_ this
  rcases hg3.2.2 with h1 | h1
  ·exact h.apart g3 h1 e
  ·have:=(h.names.blk g3 e).2;omega
end
theorem jK (a b c d w):(Instr.field 60 (.agg #[a,b,c,d]) 0).run prog w=.ok a w∧(Instr.field 60 (.agg #[a,b,c,d]) 2).run prog w=.ok c w∧(Instr.field 60 (.agg #[a,b,c,d]) 3).run prog w=.ok d w:=⟨by kernel_rfl,by kernel_rfl,by kernel_rfl⟩
theorem Ib {l g c A s w} (T:fZ l) (h:mL l g A c w s):Calls prog 26 #[.pointer (some ⟨g,0,none⟩)] w (Lg g A l.length c (oO l 6 [] s) w):=by
 obtain ⟨ANS,hANS⟩:=nm_ (oO l 6 [] s)
 rw [hANS]
 have HANS:=hid hANS
 have H:=hid h
 have hg:=h.lt
 have hlr:=h.row.1
 clear hANS h
 go_enter func26,ntmps26
 go_wp2_with fail
 go_loopg [3,4] 8 (fun k s3 s4 wr=>∃n B b V v ps s',s3=.slice B ps.length b∧s4=.slice V ps.length v∧Ca l g A c w wr B b V v ps s'∧n<k∧n+ps.length=6∧ps.length≤4∧oO l n ps s'=ANS)
 case atStart=>exact ⟨6,none,0,none,0,[],s,rfl,rfl,⟨aR.nil _ _ _ _ _,aR.nil _ _ _ _ _,fun k hk=>by simp [Value.ownBlock] at hk,H.out,Same.refl _ _⟩,by omega,rfl,by simp,HANS.out⟩
 case round=>
  obtain ⟨n,B,b,V,v,ps,s',rfl,rfl,hW,hnk,hnl,hl4,hans⟩:=hrel
  obtain ⟨gk,rfl⟩:=pk_ gk 1 (by omega)
  obtain ⟨m,rfl⟩:=pk_ n 1 (by omega)
  have HW:=hid hW
  have HIK:=hid (zK T hW.rdr fB)
  rw [oO] at hans
  clear hW
  cases hk:dN l fB s' with
  | false=>
   rw [hk] at HIK hans
   rw [K_ (by decide)] at hans
   have HA:=hid hans
   clear hk hans
   go_wp2_with fail
   refine HIK.out.mono ?_
   rintro e w2 ⟨rfl,hb2⟩
   have HB2:=hid hb2
   clear hb2
   go_wp2_with fail
   go_ret
   rw [←HA.out]
   exact (HW.out.step (by omega) (Same.of_below HB2.out) (HW.out.rdr.step HB2.out).rd HW.out.rdr.inr).post
  | true=>
   rw [hk] at HIK hans
   rw [M_ rfl] at hans
   have hkk:=mE (w:=fB) (by decide) hk
   have hon:=lL T.fin HW.out.rdr.inr (by rw [hkk.1];decide)
   have HON:=hid hon
   have HKK:=hid hkk
   clear hk hon hkk
   by_cases h4:ps.length=4
   ·have h4b:((ps.length:Int) == 4)=true:=by rw [beq_iff_eq];omega
    rw [M_ h4] at hans
    have HA:=hid hans
    clear hans h4
    go_wp2_with fail
    refine HIK.out.mono ?_
    rintro e w2 ⟨rfl,hb2⟩
    have H2:=hid (HW.out.rdr.step hb2)
    have HB2:=hid hb2
    clear hb2
    go_wp2_with fail
    refine (iZ H2.out 2).mono ?_
    rintro e w3 ⟨rfl,hr3,hs3⟩
    have H3:=hj_ hr3 hs3
    clear hr3 hs3
    go_wp2_with fail
    go_ret
    rw [←HA.out]
    exact ⟨none,0,rfl,aO.nil _ _ _ _ _,H3.out.1,(HW.out.same.below_ HB2.out).then_ H3.out.2⟩
   ·have h4b:((ps.length:Int) == 4)=false:=by rw [beq_eq_false_iff_ne];omega
    rw [K_ h4] at hans
    have hl3:ps.length≤3:=by omega
    obtain ⟨a,ha⟩:=nm_ (bG l (ps.map (·.name)) (fQ s'))
    obtain ⟨s7,h7⟩:=nm_ (bC l ⟨#[58,61]⟩ a.2)
    obtain ⟨c8,h8⟩:=nm_ (aF l ⟨#[45]⟩ s7)
    obtain ⟨e11,h11⟩:=nm_ (wC l c8.1 c8.2)
    obtain ⟨f12,h12⟩:=nm_ (aF l gR e11.2)
    obtain ⟨s13,h13⟩:=nm_ (bC l ⟨#[59]⟩ f12.2)
    have hans':oO l m (ps++[⟨a.1,e11.1,f12.1⟩]) s13=ANS:=by rw [←hans,←h13,←h12,←h11,←h8,←h7,←ha];rfl
    have HA:=hid hans'
    have HQ:=hid (⟨ha,h7,h8,h11,h12,h13⟩:_∧_∧_∧_∧_∧_)
    clear hans hans' h4 ha h7 h8 h11 h12 h13 hl4
    go_wp2_with fail
    refine HIK.out.mono ?_
    rintro e w2 ⟨rfl,hb2⟩
    have HW2:=hid (HW.out.step (by omega) (Same.of_below hb2) (HW.out.rdr.step hb2).rd HW.out.rdr.inr)
    obtain ⟨⟨c0,c1,c2,c3⟩,f0,f1,f2,f3⟩:=aK HW2.out.rdr.rd
    have hadd:IntKind.i64.wrap (s'.at_+1)=s'.at_+1:=by have h1:=HW2.out.rdr.inr.1;have h2:=HW2.out.rdr.inr.2.1;exact IntWalk.i64_in _ (by omega)
    have HW3:=hid (HW2.out.step (s':=fQ s') (by omega) ((Same.refl [g] w2).setCell (p:=⟨g,1,none⟩) (.inl (by simp)) (.int .i64 (s'.at_+1))) (HW2.out.rdr.set 1 _) HON.out.1)
    have HNM:=hid (kU T HW3.out.rdr (cc:=v) (had:=ps.map (·.name)) HW3.out.names.strs)
    rw [U_,HQ.out.1] at HNM
    clear hb2
    go_wp2_with fail
    refine HNM.out.mono ?_
    rintro e w4 ⟨rfl,hr4,hs4⟩
    have hin4:iY l a.2:=by have:=(cT T.fin (ps.map (·.name)) HW3.out.rdr.inr).1;rwa [HQ.out.1] at this
    have HW4:=hid (HW3.out.step (by omega) hs4 hr4 hin4)
    clear hr4 hs4 hin4 c0 c1 c2 c3 f0 f1 f2 f3 hadd
    go_upto_region 9 with fail
    obtain ⟨K,hK⟩:=nm_ w4.heap.size
    obtain ⟨w5,hw5,hb5,_⟩:=alo_ w4 (.cells #[.string a.1,.int .i64 0,.bool false] 71 (0,0))
    have hk5:w5.heap[K]? = some (.cells #[.string a.1,.int .i64 0,.bool false] 71 (0,0)):=by rw [←hK,←hw5];exact I_ _ _
    rw [hw5,hK]
    have HW5:=hid (HW4.out.step (by omega) (Same.of_below hb5) (HW4.out.rdr.step hb5).rd HW4.out.rdr.inr)
    have HK5:=hid (⟨hk5,hK▸HW4.out.same.size,fun k hk=>by rw [←hK];exact (HW4.out.rows.blk k hk).2,fun k hk=>by rw [←hK];exact (HW4.out.names.blk k hk).2⟩:_∧w.heap.size≤K∧(∀k,(Value.slice B ps.length b).ownBlock=some k→k<K)∧(∀k,(Value.slice V ps.length v).ownBlock=some k→k<K))
    have k0:w5.cell? ⟨K,0,none⟩=some (.string a.1):=(aB hk5 0).trans rfl
    have hkl:=aC hk5
    clear hb5 hw5 hK hk5
    go_wp2_with (at_builtin;refine Hid.out ?_)
    refine hid ?_
    refine cL (by rfl) _ _ _ (by rfl) (.string ⟨#[]⟩) 16 underlying37 gM (by rfl) (by decide) (by rfl) HW5.out.names a.1 #[.string a.1] _ (by rfl) (by rfl) (by simp [Value.oneCell']) (Av.str _ _ _) (by unfold maxLen;omega) (by omega) HW5.out.same.size ?_
    intro g2 cap w6 hG6 hS6 hg6
    have HM6:=hid (HW5.out.named hg H.out.row HK5.out hG6 hS6 hg6)
    clear hG6 hS6 hg6 k0 hkl HW HW2 HW3 HW4 HW5 HK5 HNM HIK
    go_wp2_with fail
    refine (gL T HM6.out.rdr ⟨#[58,61]⟩ (by decide)).mono ?_
    rw [HQ.out.2.1]
    rintro e w7 ⟨rfl,hr7,hs7⟩
    have HM7:=hid (HM6.out.step hs7 hr7 (by have:=(aQ T.fin ⟨#[58,61]⟩ (by decide) HM6.out.rdr.inr).1;rwa [HQ.out.2.1] at this))
    clear hr7 hs7 HM6
    go_wp2_with fail
    refine (eH T HM7.out.rdr ⟨#[45]⟩).mono ?_
    rw [HQ.out.2.2.1]
    rintro e w8 ⟨rfl,hr8,hs8⟩
    have HM8:=hid (HM7.out.step hs8 hr8 (by have:=(bK T.fin ⟨#[45]⟩ (by decide) HM7.out.rdr.inr).1;rwa [HQ.out.2.2.1] at this))
    clear hr8 hs8 HM7
    go_upto_region 12 with fail
    obtain ⟨m8,s8⟩:=c8
    obtain ⟨t,ht⟩:=nm_ (aE l s8.at_)
    have HT:=hid ht
    have HB8:=hid (fun W (hb:Below w8.heap.size w8 W)=>HM8.out.below hb)
    go_cut [41] (fun s41 wx=>s41=.bool (s8.bad == 0 && t.kind != 2)∧Below w8.heap.size w8 wx)
    case first=>
     obtain ⟨q,hq⟩:=nm_ (t.kind != 2)
     have HTK:=hid (dE HM8.out.rdr)
     have HOK:=hid (mI HM8.out.rdr)
     have hfd:=fun W=>(jK (.int .i64 t.kind) (.string t.text) (.int .i64 t.n) (.int .i64 t.at_) W).1
     rw [ht] at HTK
     clear ht
     by_cases hb:s8.bad=0
     ·have hbb:(s8.bad == 0)=true:=D_ hb
      rw [hbb] at HOK
      cases q
      all_goals
       go_wp2_with fail
       refine HOK.out.mono ?_
       rintro e w9 ⟨rfl,rfl⟩
       go_wp2_with fail
       refine HTK.out.mono ?_
       rintro e w9 ⟨rfl,hb9⟩
       go_wp2_with fail
       go_wp2_with fail
       go_meet
       exact ⟨by rw [hbb,hq];rfl,hb9⟩
     ·have hbb:(s8.bad == 0)=false:=A_ hb
      rw [hbb] at HOK
      go_wp2_with fail
      refine HOK.out.mono ?_
      rintro e w9 ⟨rfl,rfl⟩
      go_wp2_with fail
      go_meet
      exact ⟨by rw [hbb];rfl,J_ _ _⟩
    case rest=>
     obtain ⟨rfl,hbw⟩:=hcut
     have HM9:=hid (HM8.out.below hbw)
     obtain ⟨s9,h9⟩:=nm_ (if s8.bad=0∧(aE l s8.at_).kind≠2 then bB 11 s8 else s8)
     have hon9:iY l s9:=by
      rw [←h9]
      split
      ·exact (eQ 11 (by decide) HM9.out.rdr.inr).1
      ·exact HM9.out.rdr.inr
     have hbd:s9.bad=0→(aE l s9.at_).kind=2:=by
      rw [←h9]
      split
      ·exact fun h=>absurd h (cK (by decide) _)
      ·rename_i hc
       exact fun h=>Decidable.byContradiction fun hk=>hc ⟨h,hk⟩
     obtain ⟨q,hq⟩:=nm_ (s8.bad == 0 && t.kind != 2)
     rw [hq]
     have h9q:(if q=true then bB 11 s8 else s8)=s9:=by
      rw [←h9,←hq,ht]
      by_cases h1:s8.bad=0∧t.kind≠2
      ·rw [M_ h1,M_ (by simpa using h1)]
      ·rw [K_ h1,K_ (by simpa using h1)]
     have HH9:=hl_ h9 hon9 hbd h9q
     clear hbw hq ht h9 hon9 hbd h9q HB8
     go_upto_if 41 with fail
     go_cut [] (fun wx=>qW l g A c w wx B b (some ⟨g2,0,none⟩) cap ps K ⟨a.1,0,false⟩ s9)
     case first=>
      cases q
      ·go_wp2_with fail
       go_meet
       have h:s8=s9:=by simpa using HH9.out.2.2.2
       exact h▸HM9.out
      ·go_wp2_with fail
       refine (iZ HM9.out.rdr 11).mono ?_
       rintro e w10 ⟨rfl,hr10,hs10⟩
       go_wp2_with fail
       go_meet
       have h:bB 11 s8=s9:=by simpa using HH9.out.2.2.2
       exact HM9.out.step hs10 (h▸hr10) HH9.out.2.1
     case rest=>
      have HM10:=hid hcut
      have HOK:=hid (mI hcut.rdr)
      have HTK:=hid (dE hcut.rdr)
      obtain ⟨t9,ht9⟩:=nm_ (aE l s9.at_)
      have hq11:=HQ.out.2.2.2.1
      unfold wC at hq11
      simp only [HH9.out.1] at hq11
      have HE:=hid hq11
      rw [ht9] at HTK HE
      have HT9:=hid ht9
      clear hcut hq11 ht9
      go_upto_region 14 with fail
      obtain ⟨q,hq⟩:=nm_ (s9.bad == 0)
      have HQ9:=hid hq
      rw [hq] at HOK
      clear hq
      go_wp2_with fail
      refine HOK.out.mono ?_
      rintro e w11 ⟨rfl,rfl⟩
      go_upto_if 45 with fail
      go_cut [] (fun wx=>∃n s10,((n,s10):Int × RS)=(if s9.bad=0 then (t9.n,fQ s9) else (0,s9))∧qW l g A c w wx B b (some ⟨g2,0,none⟩) cap ps K ⟨a.1,n,false⟩ s10)
      case first=>
       cases q
       ·have hb:s9.bad≠0:=fun hc=>by have:=HQ9.out;rw [hc] at this;exact absurd this (by decide)
        have HB:=hid hb
        clear hb
        go_wp2_with fail
        go_meet
        exact ⟨0,s9,by rw [K_ HB.out],HM10.out⟩
       ·have HB:=hid (beq_iff_eq.1 HQ9.out)
        go_wp2_with fail
        refine HTK.out.mono ?_
        rintro e w12 ⟨rfl,hb12⟩
        have HM12:=hid (HM10.out.below hb12)
        have HM13:=hid (HM12.out.put 1 (.int .i64 t9.n) ⟨a.1,t9.n,false⟩ rfl rfl)
        have hfd:=fun W=>(jK (.int .i64 t9.kind) (.string t9.text) (.int .i64 t9.n) (.int .i64 t9.at_) W).2.1
        have hk1:w12.cell? ⟨K,1,none⟩=some (.int .i64 0):=(aB HM12.out.box 1).trans rfl
        have hf1:=aD HM12.out.box 1
        have hne:K≠g:=by have:=HM12.out.far.1;omega
        obtain ⟨⟨c0,c1,c2,c3⟩,f0,f1,f2,f3⟩:=aK HM12.out.rdr.rd
        have hadd:IntKind.i64.wrap (s9.at_+1)=s9.at_+1:=by have h1:=HM12.out.rdr.inr.1;have h2:=HM12.out.rdr.inr.2.1;exact IntWalk.i64_in _ (by omega)
        clear hb12
        go_wp2_with fail
        go_meet
        refine ⟨t9.n,fQ s9,by rw [M_ HB.out],HM13.out.step ((Same.refl [g] _).setCell (.inl (by simp)) _) (HM13.out.rdr.set 1 _) (lL T.fin HM13.out.rdr.inr ?_).1⟩
        rw [HH9.out.2.2.1 HB.out]
        decide
      case rest=>
       obtain ⟨n10,s10,he,hM⟩:=hcut
       rw [←he] at HE
       have HM11:=hid hM
       clear hM he
       go_upto_if 57 with fail
       go_cut [] (fun wx=>qW l g A c w wx B b (some ⟨g2,0,none⟩) cap ps K ⟨a.1,e11.1,false⟩ s10)
       case first=>
        have hk1:=(aB HM11.out.box 1).trans (rfl:_=some (Value.int .i64 n10))
        have hf1:=aD HM11.out.box 1
        cases m8
        ·go_wp2_with fail
         go_meet
         have h:n10=e11.1:=by rw [←HE.out];rfl
         exact h▸HM11.out
        ·have h:wrap64 (-n10)=e11.1:=by rw [←HE.out];rfl
         have HP:=hid (HM11.out.put 1 (.int .i64 (wrap64 (-n10))) ⟨a.1,e11.1,false⟩ rfl (by rw [h];rfl))
         clear h
         go_wp2_with fail
         go_meet
         exact HP.out
       case rest=>
        have HM12:=hid hcut
        have h2:s10=e11.2:=by rw [←HE.out]
        have HE2:=hid h2
        clear hcut h2
        go_wp2_with fail
        refine (eH T HM12.out.rdr gR).mono ?_
        rw [HE2.out,HQ.out.2.2.2.2.1]
        rintro e w13 ⟨rfl,hr13,hs13⟩
        have HM13:=hid (HM12.out.step hs13 hr13 (by have:=(bK T.fin gR (by decide) HM12.out.rdr.inr).1;rwa [HE2.out,HQ.out.2.2.2.2.1] at this))
        have HM14:=hid (HM13.out.put 2 (.bool f12.1) ⟨a.1,e11.1,f12.1⟩ rfl rfl)
        have hk1:w13.cell? ⟨K,2,none⟩=some (.bool false):=(aB HM13.out.box 2).trans rfl
        have hf1:=aD HM13.out.box 2
        clear hr13 hs13
        go_wp2_with fail
        refine (gL T HM14.out.rdr ⟨#[59]⟩ (by decide)).mono ?_
        rw [HQ.out.2.2.2.2.2]
        rintro e w15 ⟨rfl,hr15,hs15⟩
        have HM15:=hid (HM14.out.step hs15 hr15 (by have:=(aQ T.fin ⟨#[59]⟩ (by decide) HM14.out.rdr.inr).1;rwa [HQ.out.2.2.2.2.2] at this))
        clear hk1 hf1 hr15 hs15
        have k0:w15.cell? ⟨K,0,none⟩=some (.string a.1):=(aB HM15.out.box 0).trans rfl
        have k1:w15.cell? ⟨K,1,none⟩=some (.int .i64 e11.1):=(aB HM15.out.box 1).trans rfl
        have k2:w15.cell? ⟨K,2,none⟩=some (.bool f12.1):=(aB HM15.out.box 2).trans rfl
        go_wp2_with (at_builtin;refine Hid.out ?_)
        refine hid ?_
        refine cL (by rfl) _ _ _ (by rfl) (.agg #[.string ⟨#[]⟩,.int .i64 0,.bool false]) 32 underlying23 Ed (by rfl) (by decide) (by rfl) HM15.out.rows (⟨a.1,e11.1,f12.1⟩:oF) #[.string a.1,.int .i64 e11.1,.bool f12.1] _ (by rfl) (by rfl) (by simp [Value.oneCell']) (Av.prm _ _ _) (by unfold maxLen;omega) (by omega) HM15.out.same.size ?_
        intro g3 cap3 w16 hG hS hg3
        have HM16:=hid (HM15.out.done hG hS hg3)
        clear hG hS hg3 k0 k1 k2
        go_wp2_with fail
        go_roundg gk
        case measure=>omega
        case rel=>exact ⟨m,some ⟨g3,0,none⟩,cap3,some ⟨g2,0,none⟩,cap,ps++[⟨a.1,e11.1,f12.1⟩],s13,by simp,by simp,HM16.out,by omega,by simp;omega,by simp;omega,HA.out⟩
end Go.Proofs.YtgcfjkfipkfijaaGreatDoor
namespace Go.Proofs.YtgcfjkfipkfijaaGreatDoor
open Go Go.RowKit Go.Lib _root_.Go.Proofs.Tryz
def oH:aN Ar:=aN.iso (.pair .str gU) (fun a=>(a.name,a.e))
theorem Yt {M w a A c} (h1:a.e.kids.length≤c) (h2:gU.Row M w A a.e.kids):oH.rep M w a [.string a.name,.int .i64 a.e.op,.int .i64 a.e.n,.string a.e.name,.slice A a.e.kids.length c]:=
 ⟨[_],_,rfl,rfl,vR h1 h2⟩
theorem Ee {M w a cs} (h:oH.rep M w a cs):∃A c,cs=[.string a.name,.int .i64 a.e.op,.int .i64 a.e.n,.string a.e.name,.slice A a.e.kids.length c]∧a.e.kids.length≤c∧gU.Row M w A a.e.kids:=by
 obtain ⟨_,_,rfl,rfl,h⟩:=h
 obtain ⟨A,c,rfl,h1,h2⟩:=oR h
 exact ⟨A,c,rfl,h1,h2⟩
theorem Av.ar {P w a A c} (h:cR P w a.e A c):Av oH P w a [.string a.name,.int .i64 a.e.op,.int .i64 a.e.n,.string a.e.name,.slice A a.e.kids.length c]:=fun M hM=>Yt h.1 (h.2 M hM)
abbrev Ef (k:Int) (uA:Option Addr) (un uc:Nat) (kA:Option Addr) (kn kc:Nat):Value:=.iface 58 (.agg #[.int .i64 k,.slice uA un uc,.slice kA kn kc])
abbrev Lh (e:Ex) (eA:Option Addr) (ec:Nat) (aA:Option Addr) (an ac:Nat) (bA:Option Addr) (bn bc:Nat):Value:=
 .iface 95 (.agg #[.int .i64 e.op,.int .i64 e.n,.string e.name,.slice eA e.kids.length ec,.int .i64 0,.slice none 0 0,.slice aA an ac,.int .i64 0,.slice none 0 0,.slice bA bn bc])
abbrev Yh (nm:ByteArray) (gA:Option Addr) (gn gc:Nat):Value:=.iface 97 (.agg #[.string nm,.slice gA gn gc])
def Eg (R:List Nat→World→Option Addr→List Pc→Prop) (M:List Nat) (w:World) (p:Pc) (cs:List Value):Prop:=
 match p with
 | .row k us kids=>∃uA uc kA kc,cs=[Ef k uA us.length uc kA kids.length kc]∧us.length≤uc∧aN.str.Row M w uA us∧kids.length≤kc∧R M w kA kids
 | .choice e a b=>∃eA ec aA ac bA bc,cs=[Lh e eA ec aA a.length ac bA b.length bc]∧e.kids.length≤ec∧gU.Row M w eA e.kids∧a.length≤ac∧R M w aA a∧b.length≤bc∧R M w bA b
 | .step nm al=>∃gA gc,cs=[Yh nm gA al.length gc]∧al.length≤gc∧oH.Row M w gA al
theorem pU {R R' M M' w w' p cs} (h:Eg R M w p cs) (hR:∀A xs,R M w A xs→R' M' w' A xs) (hs:∀A xs,aN.str.Row M w A xs→aN.str.Row M' w' A xs) (he:∀A xs,gU.Row M w A xs→gU.Row M' w' A xs) (ha:∀A xs,oH.Row M w A xs→oH.Row M' w' A xs):Eg R' M' w' p cs:=by
 cases p with
 | row k us kids=>
  obtain ⟨uA,uc,kA,kc,h1,h2,h3,h4,h5⟩:=h
  exact ⟨uA,uc,kA,kc,h1,h2,hs _ _ h3,h4,hR _ _ h5⟩
 | choice e a b=>
  obtain ⟨eA,ec,aA,ac,bA,bc,h1,h2,h3,h4,h5,h6,h7⟩:=h
  exact ⟨eA,ec,aA,ac,bA,bc,h1,h2,he _ _ h3,h4,hR _ _ h5,h6,hR _ _ h7⟩
 | step nm al=>
  obtain ⟨gA,gc,h1,h2,h3⟩:=h
  exact ⟨gA,gc,h1,h2,ha _ _ h3⟩
theorem Nq {R M w p cs} (h:Eg R M w p cs):cs.length=1:=by
 cases p with
 | row k us kids=>obtain ⟨_,_,_,_,rfl,_⟩:=h;rfl
 | choice e a b=>obtain ⟨_,_,_,_,_,_,rfl,_⟩:=h;rfl
 | step nm al=>obtain ⟨_,_,rfl,_⟩:=h;rfl
def Li:Nat→aN Pc
 | 0=>⟨1,fun _ _ _ _=>False,fun h=>h.elim,fun h _=>h.elim,fun h _=>h.elim⟩
 | d+1=>⟨1,Eg (Li d).Row,Nq,fun h s=>pU h (fun _ _ h=>h.keep s) (fun _ _ h=>h.keep s) (fun _ _ h=>h.keep s) (fun _ _ h=>h.keep s),
   fun h s=>pU h (fun _ _ h=>h.less s) (fun _ _ h=>h.less s) (fun _ _ h=>h.less s) (fun _ _ h=>h.less s)⟩
theorem qX:∀d,(Li d).sz=1
 | 0=>rfl
 | _+1=>rfl
theorem Eh:∀{d:Nat} {M:List Nat} {w:World} {p:Pc} {cs:List Value},(Li d).rep M w p cs→(Li (d+1)).rep M w p cs
 | 0,_,_,_,_,h=>h.elim
 | _+1,_,_,_,_,h=>pU h (fun _ _ h=>h.imp (by rw [qX,qX]) (fun _ _ _ hx=>Eh hx)) (fun _ _ h=>h) (fun _ _ h=>h) (fun _ _ h=>h)
theorem Ic {d d'} (hd:d≤d') {M w p cs} (h:(Li d).rep M w p cs):(Li d').rep M w p cs:=by
 induction hd with
 | refl=>exact h
 | step _ ih=>exact Eh ih
def rR:aN Pc:=⟨1,fun M w p cs=>∃d,(Li d).rep M w p cs,fun h=>by obtain ⟨d,h⟩:=h;rw [(Li d).len h,qX],fun h s=>h.imp fun d h=>(Li d).keep h s,fun h s=>h.imp fun d h=>(Li d).less h s⟩
theorem Cb {M w A ks} (h:rR.Row M w A ks):∃d,(Li d).Row M w A ks:=by
 by_cases hn:0<ks.length
 ·obtain ⟨ad,e,hb,hl,hc⟩:=h.2 hn
  have key:∀m,m≤ks.length→∃d,∀i (hi:i<ks.length),i<m→∃cs,(Li d).rep M w ks[i] cs∧∀j u,cs[j]? = some u→w.cell? (ad.add (i*1+j))=some u:=by
   intro m
   induction m with
   | zero=>intro _;exact ⟨0,fun i _ h=>absurd h (by omega)⟩
   | succ m ih=>
    intro hm
    obtain ⟨d,hd⟩:=ih (by omega)
    obtain ⟨cs,⟨d',h'⟩,hcs⟩:=hc m (by omega)
    refine ⟨d+d',fun i hi him=>?_⟩
    by_cases e:i=m
    ·subst e;exact ⟨cs,Ic (by omega) h',hcs⟩
    ·obtain ⟨cs,h1,h2⟩:=hd i hi (by omega)
     exact ⟨cs,Ic (by omega) h1,h2⟩
  obtain ⟨d,hd⟩:=key ks.length le_
  refine ⟨d,h.1,fun _=>⟨ad,e,hb,hl,fun i hi=>?_⟩⟩
  rw [qX]
  exact hd i hi hi
 ·exact ⟨0,h.1,fun h=>absurd h hn⟩
theorem wI {d d'} (hd:d≤d') {M w A ks} (h:(Li d).Row M w A ks):(Li d').Row M w A ks:=h.imp (by rw [qX,qX]) (fun _ _ _ hx=>Ic hd hx)
theorem fC {M w p cs}:rR.rep M w p cs↔Eg rR.Row M w p cs:=by
 constructor
 ·rintro ⟨d,h⟩
  cases d with
  | zero=>exact h.elim
  | succ d=>exact pU h (fun _ _ h=>h.imp (by rw [qX];rfl) (fun _ _ _ hx=>⟨d,hx⟩)) (fun _ _ h=>h) (fun _ _ h=>h) (fun _ _ h=>h)
 ·intro h
  cases p with
  | row k us kids=>
   obtain ⟨uA,uc,kA,kc,h1,h2,h3,h4,h5⟩:=h
   obtain ⟨d,hd⟩:=Cb h5
   exact ⟨d+1,uA,uc,kA,kc,h1,h2,h3,h4,hd⟩
  | choice e a b=>
   obtain ⟨eA,ec,aA,ac,bA,bc,h1,h2,h3,h4,h5,h6,h7⟩:=h
   obtain ⟨d,hd⟩:=Cb h5
   obtain ⟨d',hd'⟩:=Cb h7
   exact ⟨d+d' + 1,eA,ec,aA,ac,bA,bc,h1,h2,h3,h4,wI (by omega) hd,h6,wI (by omega) hd'⟩
  | step nm al=>exact ⟨1,h⟩
theorem Av.step {P w nm al gA gc} (h:aO oH P w gA gc al):Av rR P w (.step nm al) [Yh nm gA al.length gc]:=fun M hM=>fC.2 ⟨gA,gc,rfl,h.1,h.2 M hM⟩
theorem Av.row {P w k us kids uA kA uc kc} (h1:aO aN.str P w uA uc us) (h2:aO rR P w kA kc kids):Av rR P w (.row k us kids) [Ef k uA us.length uc kA kids.length kc]:=
 fun M hM=>fC.2 ⟨uA,uc,kA,kc,rfl,h1.1,h1.2 M hM,h2.1,h2.2 M hM⟩
theorem Av.choice {P w e a b eA aA bA ec ac bc} (h1:cR P w e eA ec) (h2:aO rR P w aA ac a) (h3:aO rR P w bA bc b):Av rR P w (.choice e a b) [Lh e eA ec aA a.length ac bA b.length bc]:=
 fun M hM=>fC.2 ⟨eA,ec,aA,ac,bA,bc,rfl,h1.1,h1.2 M hM,h2.1,h2.2 M hM,h3.1,h3.2 M hM⟩
theorem Lj:(Tryz.prog.info? 75).map (fun i=>(i.zero,i.size,i.bytes))=some (some (.agg #[.string ⟨#[]⟩,.int .i64 0,.int .i64 0,.string ⟨#[]⟩,.slice none 0 0]),5,72):=by kernel_rfl
theorem Wf:(Tryz.prog.info? 91).map (fun i=>(i.zero,i.size,i.bytes))=some (some .nilIface,1,16):=by kernel_rfl
theorem nT {l x s} (hx:x.size≠0) (h:(aF l x s).1=true):s.bad=0:=by
 unfold aF at h
 split at h
 ·rename_i hc
  rw [Bool.or_eq_true] at hc
  rcases hc with hc | hc
  ·exact (mE hx hc).2
  ·exact (kM hc).2
 ·simp at h
theorem wJ {l x s}:(aF l x s).2.bad=s.bad:=by unfold aF;split <;> rfl
theorem Cc {e s} (he:e≠0):(bB e s).bad≠0:=by unfold bB;split <;> assumption
theorem Lk {l x s} (h:s.bad≠0):(bC l x s).bad≠0:=by
 unfold bC
 split
 ·rw [wJ];exact h
 ·exact Cc (by decide)
theorem Wg {l had s} (h:s.bad≠0):(bG l had s).2.bad≠0:=by unfold bG;rw [M_ h];exact h
theorem Wh {l s} (h:s.bad≠0):(dZ l s).2.bad≠0:=by unfold dZ;rw [M_ h];exact h
theorem qY {l had most s} (h:(had.length:Int)=most):(bG l had (cS l had.length most s)).2.bad≠0:=by
 unfold cS
 by_cases hn:kC l s=true
 ·rw [M_ ⟨h,hn⟩]
  exact Wg (Cc (by decide))
 ·rw [K_ (fun hc=>hn hc.2)]
  unfold bG
  by_cases hb:s.bad≠0
  ·rw [M_ hb];exact hb
  ·rw [K_ hb,M_ (by simpa using hn)]
   exact Cc (by decide)
theorem zQ {l had s} (h:had.length=4):(Ds l had s).2.bad≠0:=Wh (Lk (qY (by omega)))
end Go.Proofs.YtgcfjkfipkfijaaGreatDoor
