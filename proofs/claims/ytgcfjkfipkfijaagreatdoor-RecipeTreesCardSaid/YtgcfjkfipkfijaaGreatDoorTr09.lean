/- Part 9 of the proof of rtrees_card; no conditions. -/
import Derived.Test.YtgcfjkfipkfijaaGreatDoorTr01
import Derived.Test.YtgcfjkfipkfijaaGreatDoorTr02
import Derived.Test.YtgcfjkfipkfijaaGreatDoorTr05
import Derived.Test.YtgcfjkfipkfijaaGreatDoorTr08
import Derived.Laws.IdiomStrings
import Derived.Deep.LoopGhost
set_option maxRecDepth 100000
set_option maxHeartbeats 4000000
namespace Go.Proofs.YtgcfjkfipkfijaaGreatDoor
open Go Go.RowKit Go.Lib _root_.Go.Proofs.Tryz
structure oF where
 name:ByteArray
 n:Int
 scaled:Bool
structure Ar where
 name:ByteArray
 e:Ex
structure Nd where
 kind:Int
 kids:List Int
 units:List ByteArray
 name:ByteArray
 args:List Ar
 e:Ex
structure tL where
 name:ByteArray
 params:List oF
 nodes:List Nd
def Dq:tL:=⟨⟨#[]⟩,[],[]⟩
inductive Pc where
 | row (kind:Int) (units:List ByteArray) (kids:List Pc)
 | choice (e:Ex) (a b:List Pc)
 | step (name:ByteArray) (args:List Ar)
def low (c:UInt8):UInt8:=if 65≤c∧c≤90 then c+32 else c
def uL (s:ByteArray):ByteArray:=⟨(s.data.toList.map low).toArray⟩
def gQ:ByteArray:=⟨#[114,101,99,105,112,101]⟩
def fB:ByteArray:=⟨#[112,97,114,97,109]⟩
def gR:ByteArray:=⟨#[115,99,97,108,101,100]⟩
def qH:ByteArray:=⟨#[112,97,114]⟩
def qS:ByteArray:=⟨#[115,101,113]⟩
def jP:ByteArray:=⟨#[117,110,105,116]⟩
def Bp:ByteArray:=⟨#[105,102]⟩
def gF:ByteArray:=⟨#[101,108,115,101]⟩
def fK:ByteArray:=⟨#[112,104,97,115,101]⟩
def eP:List ByteArray:=[gQ,fB,gR,qH,qS,jP,Bp,gF,fK]
def Dr (x:ByteArray) (l:List ByteArray):Bool:=l.any (fun y=>dK y x)
def eE (t:bQ):ByteArray:=if t.kind=1∧Dr (uL t.text) eP=true then uL t.text else ⟨#[]⟩
structure RS where
 at_:Int
 bad:Int
 nodes:Int
def bB (e:Int) (s:RS):RS:=if s.bad=0 then { s with bad:=e } else s
def fQ (s:RS):RS:={ s with at_:=s.at_+1 }
def dN (l:List bQ) (w:ByteArray) (s:RS):Bool:=s.bad == 0 && dK (eE (aE l s.at_)) w
def bZ (l:List bQ) (w:ByteArray) (s:RS):Bool:=s.bad == 0 && ((aE l s.at_).kind == 4 && dK (aE l s.at_).text w)
def aF (l:List bQ) (w:ByteArray) (s:RS):Bool × RS:=if (dN l w s || bZ l w s)=true then (true,fQ s) else (false,s)
def bC (l:List bQ) (w:ByteArray) (s:RS):RS:=if (aF l w s).1=true then (aF l w s).2 else bB 11 (aF l w s).2
def kC (l:List bQ) (s:RS):Bool:=(aE l s.at_).kind == 1 && (eE (aE l s.at_)).size == 0
def bG (l:List bQ) (had:List ByteArray) (s:RS):ByteArray × RS:=
 if s.bad≠0 then (⟨#[]⟩,s)
 else if kC l s=false then (⟨#[]⟩,bB 11 s)
 else if Dr (aE l s.at_).text had=true then (⟨#[]⟩,bB 5 s)
 else ((aE l s.at_).text,fQ s)
def cS (l:List bQ) (n most:Int) (s:RS):RS:=if n=most∧kC l s=true then bB 2 s else s
def dZ (l:List bQ) (s:RS):Ex × RS:=if s.bad≠0 then (eD,s) else ((gZ l s.at_).1,⟨(gZ l s.at_).2.2,(gZ l s.at_).2.1,s.nodes⟩)
def wC (l:List bQ) (minus:Bool) (s:RS):Int × RS:=
 let d:=if s.bad=0∧(aE l s.at_).kind≠2 then bB 11 s else s
 let e:=if d.bad=0 then ((aE l d.at_).n,fQ d) else (0,d)
 (if minus=true then wrap64 (-e.1) else e.1,e.2)
def yX (l:List bQ) (had:List ByteArray) (s:RS):oF × RS:=
 let a:=bG l had s
 let c:=aF l ⟨#[45]⟩ (bC l ⟨#[58,61]⟩ a.2)
 let e:=wC l c.1 c.2
 let f:=aF l gR e.2
 (⟨a.1,e.1,f.1⟩,bC l ⟨#[59]⟩ f.2)
def oO (l:List bQ):Nat→List oF→RS→List oF × RS
 | 0,ps,s=>(ps,s)
 | f+1,ps,s=>
  if dN l fB s=true then
   if ps.length=4 then ([],bB 2 s)
   else oO l f (ps++[(yX l (ps.map (·.name)) (fQ s)).1]) (yX l (ps.map (·.name)) (fQ s)).2
  else (ps,s)
def aU (n:Int) (s:RS):RS:=if 24<s.nodes+n then bB 2 { s with nodes:=s.nodes+n } else { s with nodes:=s.nodes+n }
def fD (l:List bQ):Nat→List ByteArray→RS→List ByteArray × RS
 | 0,us,s=>(us,s)
 | f+1,us,s=>
  if (aF l ⟨#[44]⟩ s).1=true then
   let t:=bG l us (cS l us.length 5 (aF l ⟨#[44]⟩ s).2)
   fD l f (us++[t.1]) t.2
  else (us,(aF l ⟨#[44]⟩ s).2)
def Ds (l:List bQ) (had:List ByteArray) (s:RS):Ar × RS:=
 let a:=bG l had (cS l had.length 4 s)
 let b:=dZ l (bC l ⟨#[61]⟩ a.2)
 (⟨a.1,b.1⟩,b.2)
def mH (l:List bQ):Nat→Bool→List Ar→RS→List Ar × RS
 | 0,_,al,s=>(al,s)
 | f+1,more,al,s=>
  if more=true then
   let a:=Ds l (al.map (·.name)) s
   let c:=aF l ⟨#[44]⟩ a.2
   mH l f c.1 (al++[a.1]) c.2
  else (al,s)
def lK (l:List bQ) (s:RS):Pc × RS:=
 let a:=bG l [] s
 let b:=bC l ⟨#[40]⟩ a.2
 let c:=mH l 8 (b.bad == 0 && !bZ l ⟨#[41]⟩ b) [] b
 (.step a.1 c.1,bC l ⟨#[59]⟩ (bC l ⟨#[41]⟩ c.2))
def dB (l:List bQ) (nd:RS→Pc × RS):Nat→List Pc→RS→List Pc × RS
 | 0,ps,s=>(ps,s)
 | f+1,ps,s=>
  if s.bad=0∧bZ l ⟨#[125]⟩ s=false then dB l nd f (ps++[(nd s).1]) (nd s).2
  else (ps,s)
def aL (l:List bQ) (nd:RS→Pc × RS) (s:RS):List Pc × RS:=
 let b:=dB l nd 30 [] (bC l ⟨#[123]⟩ s)
 (b.1,bC l ⟨#[125]⟩ b.2)
def dI (l:List bQ) (blk:RS→List Pc × RS) (w:ByteArray) (s:RS):Pc × RS:=
 if dK w qS=true∨dK w qH=true then
  let b:=blk (aF l w (aU 1 s)).2
  (.row (if dK w qH=true then 1 else 0) [] b.1,b.2)
 else if dK w jP=true then
  let a:=bG l [] (aF l w (aU 1 s)).2
  let u:=fD l 8 [a.1] a.2
  let b:=blk u.2
  (.row 2 u.1 b.1,b.2)
 else if dK w Bp=true then
  let e:=dZ l (aF l w (aU 3 s)).2
  let a:=blk e.2
  let c:=aF l gF a.2
  if c.1=true then (.choice e.1 a.1 (blk c.2).1,(blk c.2).2) else (.choice e.1 a.1 [],c.2)
 else if dK w fK=true then lK l (aF l w (aU 1 s)).2
 else (.step ⟨#[]⟩ [],bB 11 s)
def gK (l:List bQ):Nat→RS→Pc × RS
 | 0,s=>(.step ⟨#[]⟩ [],s)
 | f+1,s=>dI l (aL l (gK l f)) (eE (aE l s.at_)) s
mutual
def cX:Int→Pc→List Nd
 | b,.row k us kids=>⟨k,(aV (b+1) kids).2,us,⟨#[]⟩,[],eD⟩::(aV (b+1) kids).1
 | b,.choice e x y=>
  let p:=aV (b+2) x
  let q:=aV (b+3+p.1.length) y
  ⟨4,[b+1,b+2+p.1.length],[],⟨#[]⟩,[],e⟩::⟨0,p.2,[],⟨#[]⟩,[],eD⟩::(p.1++⟨0,q.2,[],⟨#[]⟩,[],eD⟩::q.1)
 | _,.step nm al=>[⟨3,[],[],nm,al,eD⟩]
def aV:Int→List Pc→List Nd × List Int
 | _,[]=>([],[])
 | b,p::ps=>(cX b p++(aV (b+(cX b p).length) ps).1,b::(aV (b+(cX b p).length) ps).2)
end
def rW (l:List bQ):ByteArray × List oF × List Pc × RS:=
 let n:=bG l [] (bC l gQ ⟨0,0,1⟩)
 let p:=oO l 6 [] n.2
 let b:=aL l (gK l 30) p.2
 (n.1,p.1,b.1,if b.2.bad=0∧(aE l b.2.at_).kind≠0 then bB 11 b.2 else b.2)
def iF (t:ByteArray):tL × Int × Int:=
 let c:=cI t
 if c.2.1≠0 then (Dq,c.2.1,c.2.2)
 else
  let r:=rW c.1
  if r.2.2.2.bad≠0 then (Dq,r.2.2.2.bad,(aE c.1 r.2.2.2.at_).at_)
  else (⟨r.1,r.2.1,cX 0 (.row 0 [] r.2.2.1)⟩,0,0)
def mD:Pc→Nd
 | .row k us _=>⟨k,[],us,⟨#[]⟩,[],eD⟩
 | .choice e _ _=>⟨4,[],[],⟨#[]⟩,[],e⟩
 | .step nm al=>⟨3,[],[],nm,al,eD⟩
def aY:Pc→List Pc
 | .row _ _ kids=>kids
 | .choice _ a b=>[.row 0 [] a,.row 0 [] b]
 | .step _ _=>[]
theorem nQ (b p):cX b p={ mD p with kids:=(aV (b+1) (aY p)).2 }::(aV (b+1) (aY p)).1:=by
 cases p with
 | row k us kids=>rw [cX];rfl
 | choice e x y=>
  have h1:b+1+1=b+2:=by omega
  have h3:∀n:Nat,b+1+((n+1:Nat):Int)=b+2+n:=fun n=>by omega
  have h4:∀n:Nat,b+2+(n:Int)+1=b+3+n:=fun n=>by omega
  simp only [aY,mD,cX,aV,h1,P_,h3,h4,List.append_nil,List.cons_append]
 | step nm al=>simp only [aY,mD,cX,aV]
def iY (l:List bQ) (s:RS):Prop:=0≤s.at_∧s.at_<l.length∧0≤s.nodes∧s.nodes≤27∧(s.bad=0→s.nodes≤24)
def oP (l:List bQ):Prop:=0<l.length∧(aE l ((l.length:Int) - 1)).kind=0
def nR (l:List bQ):Prop:=∀a:Int,0≤a→a<l.length→0≤(gZ l a).2.2∧(gZ l a).2.2<l.length
def dD (l:List bQ) (s s':RS):Prop:=iY l s'∧s.nodes≤s'.nodes
theorem dD.refl {l s} (h:iY l s):dD l s s:=⟨h,m_ _⟩
theorem dD.trans {l a b c} (h:dD l a b) (k:dD l b c):dD l a c:=⟨k.1,k_ h.2 k.2⟩
theorem cK {e} (he:e≠0) (s):(bB e s).bad≠0:=by unfold bB;split <;> assumption
theorem eQ {l s} (e) (he:e≠0) (h:iY l s):dD l s (bB e s):=by
 unfold bB
 split
 ·exact ⟨⟨h.1,h.2.1,h.2.2.1,h.2.2.2.1,fun hc=>absurd hc he⟩,m_ _⟩
 ·exact .refl h
theorem lL {l s} (hl:oP l) (h:iY l s) (hk:(aE l s.at_).kind≠0):dD l s (fQ s):=by
 have hne:s.at_≠(l.length:Int) - 1:=fun e=>hk (by rw [e];exact hl.2)
 obtain ⟨h1,h2,h3,h4,h5⟩:=h
 exact ⟨⟨by show 0≤s.at_+1;omega,by show s.at_+1<_;omega,h3,h4,h5⟩,m_ _⟩
theorem Nf {t} (h:(eE t).size≠0):t.kind=1:=by
 unfold eE at h
 split at h
 ·rename_i hc;exact hc.1
 ·exact absurd rfl h
theorem mE {l w s} (hw:w.size≠0) (h:dN l w s=true):(aE l s.at_).kind=1∧s.bad=0:=by
 unfold dN at h
 rw [a_,beq_iff_eq,bF] at h
 exact ⟨Nf (by rw [h.2];exact hw),h.1⟩
theorem kM {l w s} (h:bZ l w s=true):(aE l s.at_).kind=4∧s.bad=0:=by
 unfold bZ at h
 rw [a_,a_,beq_iff_eq,beq_iff_eq] at h
 exact ⟨h.2.1,h.1⟩
theorem bK {l s} (hl:oP l) (w) (hw:w.size≠0) (h:iY l s):dD l s (aF l w s).2:=by
 unfold aF
 split
 ·rename_i hc
  rw [Bool.or_eq_true] at hc
  refine lL hl h ?_
  rcases hc with hc | hc
  ·rw [(mE hw hc).1];decide
  ·rw [(kM hc).1];decide
 ·exact .refl h
theorem aQ {l s} (hl:oP l) (w) (hw:w.size≠0) (h:iY l s):dD l s (bC l w s):=by
 unfold bC
 have h1:=bK hl w hw h
 split
 ·exact h1
 ·exact h1.trans (eQ 11 (by decide) h1.1)
theorem Dt {l s} (h:kC l s=true):(aE l s.at_).kind=1:=by
 unfold kC at h
 rw [a_,beq_iff_eq] at h
 exact h.1
theorem cT {l s} (hl:oP l) (had) (h:iY l s):dD l s (bG l had s).2:=by
 unfold bG
 split
 ·exact .refl h
 ·split
  ·exact eQ 11 (by decide) h
  ·rename_i hn
   split
   ·exact eQ 5 (by decide) h
   ·exact lL hl h (by rw [Dt (by simpa using hn)];decide)
theorem mT {l s} (n most) (h:iY l s):dD l s (cS l n most s):=by
 unfold cS
 split
 ·exact eQ 2 (by decide) h
 ·exact .refl h
theorem lM {l s} (ht:nR l) (h:iY l s):dD l s (dZ l s).2:=by
 unfold dZ
 split
 ·exact .refl h
 ·rename_i hb
  have hb:s.bad=0:=by simpa using hb
  obtain ⟨h1,h2,h3,h4,h5⟩:=h
  have h6:=ht s.at_ h1 h2
  exact ⟨⟨h6.1,h6.2,h3,h4,fun _=>h5 hb⟩,m_ _⟩
theorem Vu {l s} (hl:oP l) (m) (h:iY l s):dD l s (wC l m s).2:=by
 unfold wC
 simp only
 by_cases h1:s.bad=0∧(aE l s.at_).kind≠2
 ·rw [M_ h1,K_ (cK (by decide) s)]
  exact eQ 11 (by decide) h
 ·rw [K_ h1]
  split
  ·rename_i hb
   refine lL hl h ?_
   have:(aE l s.at_).kind=2:=Decidable.byContradiction fun hc=>h1 ⟨hb,hc⟩
   rw [this];decide
  ·exact .refl h
theorem Vv {l s} (hl:oP l) (had) (h:iY l s):dD l s (yX l had s).2:=by
 have h1:=cT hl had h
 have h2:=h1.trans (aQ hl ⟨#[58,61]⟩ (by decide) h1.1)
 have h3:=h2.trans (bK hl ⟨#[45]⟩ (by decide) h2.1)
 have h4:=h3.trans (Vu hl (aF l ⟨#[45]⟩ (bC l ⟨#[58,61]⟩ (bG l had s).2)).1 h3.1)
 have h5:=h4.trans (bK hl gR (by decide) h4.1)
 exact h5.trans (aQ hl ⟨#[59]⟩ (by decide) h5.1)
theorem vF {l} (hl:oP l):∀(f:Nat) (ps:List oF) (s:RS),iY l s→dD l s (oO l f ps s).2
 | 0,ps,s,h=>.refl h
 | f+1,ps,s,h=>by
  rw [oO]
  split
  ·rename_i hk
   split
   ·exact eQ 2 (by decide) h
   ·have h1:=lL hl h (by rw [(mE (by decide) hk).1];decide)
    have h2:=h1.trans (Vv hl (ps.map (·.name)) h1.1)
    exact h2.trans (vF hl f _ _ h2.1)
  ·exact .refl h
theorem iB {l s} (n) (h1:1≤n) (h3:n≤3) (hb:s.bad=0) (h:iY l s):dD l s (aU n s)∧s.nodes+1≤(aU n s).nodes:=by
 obtain ⟨a,b,c,d,e⟩:=h
 have e:=e hb
 unfold aU bB
 rw [hb]
 split
 ·simp only [if_true]
  exact ⟨⟨⟨a,b,by show 0≤s.nodes+n;omega,by show s.nodes+n≤27;omega,fun hc=>absurd hc (show (2:Int)≠0 by decide)⟩,by show s.nodes≤s.nodes+n;omega⟩,by show s.nodes+1≤s.nodes+n;omega⟩
 ·exact ⟨⟨⟨a,b,by show 0≤s.nodes+n;omega,by show s.nodes+n≤27;omega,fun _=>by show s.nodes+n≤24;omega⟩,by show s.nodes≤s.nodes+n;omega⟩,by show s.nodes+1≤s.nodes+n;omega⟩
theorem oW {l} (hl:oP l):∀(f:Nat) (us:List ByteArray) (s:RS),iY l s→dD l s (fD l f us s).2
 | 0,us,s,h=>.refl h
 | f+1,us,s,h=>by
  rw [fD]
  have h1:=bK hl ⟨#[44]⟩ (by decide) h
  split
  ·have h2:=h1.trans (mT us.length 5 h1.1)
   have h3:=h2.trans (cT hl us h2.1)
   exact h3.trans (oW hl f _ _ h3.1)
  ·exact h1
theorem Vw {l s} (hl:oP l) (ht:nR l) (had) (h:iY l s):dD l s (Ds l had s).2:=by
 have h1:=mT (l:=l) had.length 4 h
 have h2:=h1.trans (cT hl had h1.1)
 have h3:=h2.trans (aQ hl ⟨#[61]⟩ (by decide) h2.1)
 exact h3.trans (lM ht h3.1)
theorem Bq {l} (hl:oP l) (ht:nR l):∀(f:Nat) (m:Bool) (al:List Ar) (s:RS),iY l s→dD l s (mH l f m al s).2
 | 0,m,al,s,h=>.refl h
 | f+1,m,al,s,h=>by
  rw [mH]
  split
  ·have h1:=Vw hl ht (al.map (·.name)) h
   have h2:=h1.trans (bK hl ⟨#[44]⟩ (by decide) h1.1)
   exact h2.trans (Bq hl ht f _ _ _ h2.1)
  ·exact .refl h
theorem Du {l s} (hl:oP l) (ht:nR l) (h:iY l s):dD l s (lK l s).2:=by
 have h1:=cT hl [] h
 have h2:=h1.trans (aQ hl ⟨#[40]⟩ (by decide) h1.1)
 have h3:=h2.trans (Bq hl ht 8 ((bC l ⟨#[40]⟩ (bG l [] s).2).bad == 0 && !bZ l ⟨#[41]⟩ (bC l ⟨#[40]⟩ (bG l [] s).2)) [] _ h2.1)
 have h4:=h3.trans (aQ hl ⟨#[41]⟩ (by decide) h3.1)
 exact h4.trans (aQ hl ⟨#[59]⟩ (by decide) h4.1)
def fL (l:List bQ) (m:Int) (nd:RS→Pc × RS):Prop:=∀s,iY l s→s.bad=0→m≤s.nodes→dD l s (nd s).2∧((nd s).2.bad=0→s.nodes+1≤(nd s).2.nodes)
theorem zI {l m nd} (hn:fL l m nd):∀(f:Nat) (ps:List Pc) (s:RS),iY l s→m≤s.nodes→dD l s (dB l nd f ps s).2
 | 0,ps,s,h,_=>.refl h
 | f+1,ps,s,h,hm=>by
  rw [dB]
  split
  ·rename_i hc
   have h1:=(hn s h hc.1 hm).1
   exact h1.trans (zI hn f _ _ h1.1 (k_ hm h1.2))
  ·exact .refl h
theorem dW {l m nd} (hl:oP l) (hn:fL l m nd) {s} (h:iY l s) (hm:m≤s.nodes):dD l s (aL l nd s).2:=by
 have h1:=aQ hl ⟨#[123]⟩ (by decide) h
 have h2:=h1.trans (zI hn 30 [] _ h1.1 (k_ hm h1.2))
 exact h2.trans (aQ hl ⟨#[125]⟩ (by decide) h2.1)
theorem jQ {a b} (h:dK a b=true) (hb:b.size≠0):a.size≠0:=by rw [bF.1 h];exact hb
theorem Rm {l m nd} (hl:oP l) (ht:nR l) (hn:fL l (m+1) nd) (w):fL l m (dI l (aL l nd) w):=fun s h hb hm=>by
 unfold dI
 have one:=iB 1 (by decide) (by decide) hb h
 have fin:∀{a b:RS},s.nodes+1≤a.nodes→dD l s a→dD l a b→dD l s b∧(b.bad=0→s.nodes+1≤b.nodes):=fun h1 h2 h3=>⟨h2.trans h3,fun _=>k_ h1 h3.2⟩
 split
 ·rename_i hw
  have hw0:w.size≠0:=by rcases hw with hw | hw <;> exact jQ hw (by decide)
  have h1:=bK hl w hw0 one.1.1
  exact fin one.2 one.1 (h1.trans (dW hl hn h1.1 (by have:=h1.2;omega)))
 ·split
  ·rename_i hw
   have h1:=bK hl w (jQ hw (by decide)) one.1.1
   have h2:=h1.trans (cT hl [] h1.1)
   have h3:=h2.trans (oW hl 8 [(bG l [] (aF l w (aU 1 s)).2).1] _ h2.1)
   exact fin one.2 one.1 (h3.trans (dW hl hn h3.1 (by have:=h3.2;omega)))
  ·split
   ·rename_i hw
    have lG:=iB 3 (by decide) (by decide) hb h
    have h1:=bK hl w (jQ hw (by decide)) lG.1.1
    have h2:=h1.trans (lM ht h1.1)
    have h3:=h2.trans (dW hl hn h2.1 (by have:=h2.2;omega))
    have h4:=h3.trans (bK hl gF (by decide) h3.1)
    simp only
    split
    ·exact fin lG.2 lG.1 (h4.trans (dW hl hn h4.1 (by have:=h4.2;omega)))
    ·exact fin lG.2 lG.1 h4
   ·split
    ·rename_i hw
     have h1:=bK hl w (jQ hw (by decide)) one.1.1
     exact fin one.2 one.1 (h1.trans (Du hl ht h1.1))
    ·exact ⟨eQ 11 (by decide) h,fun hc=>absurd hc (cK (by decide) s)⟩
theorem lN {l} (hl:oP l) (ht:nR l):∀f:Nat,fL l (25 - f) (gK l f)
 | 0=>fun s h hb hm=>by have:=h.2.2.2.2 hb;omega
 | f+1=>fun s h hb hm=>by
  rw [gK]
  have h1:=lN hl ht f
  have e:25 - ((f+1:Nat):Int)+1=25 - f:=by omega
  rw [←e] at h1
  exact Rm hl ht h1 _ s h hb hm
end Go.Proofs.YtgcfjkfipkfijaaGreatDoor
namespace Go.Proofs.YtgcfjkfipkfijaaGreatDoor
open Go Go.RowKit Go.Lib _root_.Go.Proofs.Tryz
def iC (s:ByteArray) (i:Nat):List UInt8:=(s.data.toList.take i).map low++s.data.toList.drop i
theorem Hu (s):iC s 0=s.data.toList:=by simp [iC]
theorem tM (s i):(iC s i).length=s.size:=by
 have h:=aJ s
 simp only [iC,O_,U_,l_,Q_]
 omega
theorem Ng (s):iC s s.size=(uL s).data.toList:=by
 have h:=aJ s
 unfold iC uL
 rw [List.take_of_length_le (by omega),List.drop_of_length_le (by omega)]
 simp
theorem Dv (s i) (hi:i<s.size):(iC s i)[i]? = some s[i]:=by
 have h:=aJ s
 unfold iC
 rw [List.getElem?_append_right (by simp;omega),U_,l_,Nat.min_eq_left (by omega),List.getElem?_drop]
 have hi':i<s.data.toList.length:=by omega
 simp only [Nat.sub_self,Nat.add_zero]
 exact R_ hi'
theorem wD (s i) (hi:i<s.size):iC s (i+1)=(iC s i).set i (low s[i]):=by
 have h:=aJ s
 have hi':i<s.data.toList.length:=by omega
 have e:s.data.toList[i]=s[i]:=rfl
 unfold iC
 rw [Z_ hi',f_,List.set_append_right _ _ (by simp;omega)]
 simp only [U_,l_,Nat.min_eq_left (j_ hi'),Nat.sub_self,List.map_cons,List.map_nil,p_,List.singleton_append]
 rw [List.drop_eq_getElem_cons hi',List.set_cons_zero,e]
theorem wE {s i} (hi:i<s.size) (h:low s[i]=s[i]):iC s (i+1)=iC s i:=by
 rw [wD s i hi,h]
 have h1:=Dv s i hi
 have h2:i<(iC s i).length:=by rw [tM];exact hi
 rw [R_ h2] at h1
 rw [←e_ h1,List.set_getElem_self]
theorem Kv (c):((low c).toNat:Int)=if 65≤(c.toNat:Int)∧(c.toNat:Int)≤90 then (c.toNat:Int)+32 else c.toNat:=by
 unfold low
 have e:(65≤c∧c≤90)↔(65≤(c.toNat:Int)∧(c.toNat:Int)≤90):=by
  simp [UInt8.le_iff_toNat_le]
  omega
 by_cases h:65≤c∧c≤90
 ·rw [M_ h,M_ (e.1 h),UInt8.toNat_add]
  have:=(e.1 h).2
  simp
  omega
 ·rw [K_ h,K_ (fun hc=>h (e.2 hc))]
def Nh (w:World) (K:Nat) (l:List UInt8):Prop:=K<w.heap.size∧∀j (hj:j<l.length),w.cell? ⟨K,j,none⟩=some (.int .u8 (l[j].toNat:Int))∧w.frozen? ⟨K,j,none⟩=false
theorem Nh.set {w K i l} (h:Nh w K l) (c) (_hi:i<l.length):Nh (w.setCell ⟨K,i,none⟩ (.int .u8 (c.toNat:Int))) K (l.set i c):=by
 refine ⟨by simpa [World.setCell] using h.1,fun j hj=>?_⟩
 rw [List.length_set] at hj
 obtain ⟨h1,h2⟩:=h.2 j hj
 refine ⟨?_,by rw [World.frozen?_setCell];exact h2⟩
 by_cases e:i=j
 ·subst e
  rw [List.getElem_set_self]
  exact World.cell?_setCell_same _ _ _ h1
 ·rw [List.getElem_set_ne e,World.cell?_setCell_other _ _ _ _ (fun hc=>e (by injection hc))]
  exact h1
theorem tN:Tryz.prog.underlying 9=some .string:=by kernel_rfl
theorem tO:Tryz.prog.underlying 108=some (.slice 5):=by kernel_rfl
theorem wF:Tryz.prog.underlying 5=some (.int .u8):=by kernel_rfl
theorem Hv (s w):∃cap w1,(convert 9 108 (.string s)).run prog w=.ok (.slice (some ⟨w.heap.size,0,none⟩) s.size cap) w1∧Below w.heap.size w w1∧Nh w1 w.heap.size s.data.toList:=by
 refine ⟨_,_,run_bytes_of_string w _ _ _ s tN tO wF,(J_ _ _).drew.alloc le_ _,by simp,fun j hj=>⟨?_,?_⟩⟩
 ·have hj':j<s.data.size:=by simpa using hj
  have h:=World.cell?_alloc_mark w.drew (bytesRow s (grownCap w s.size 0 5)) 5 ((bytesRow s (grownCap w s.size 0 5)).size,(bytesRow s (grownCap w s.size 0 5)).size+1) j
  exact h.trans ((bytesRow_at s _ j hj').trans (by simp))
 ·have hj':j<s.data.size:=by simpa using hj
  have h:=World.frozen?_alloc_mark w.drew (bytesRow s (grownCap w s.size 0 5)) 5 (bytesRow s (grownCap w s.size 0 5)).size ((bytesRow s (grownCap w s.size 0 5)).size+1) j
  refine h.trans ?_
  have:j<(bytesRow s (grownCap w s.size 0 5)).size:=by unfold bytesRow;simp;simp at hj';omega
  rw [V_ (by omega)]
  rfl
theorem Ni {K cap n w l} (h:Nh w K l) (hn:l.length=n):(convert 108 9 (.slice (some ⟨K,0,none⟩) n cap)).run prog w=.ok (.string ⟨l.toArray⟩) w:=by
 subst hn
 exact run_convert_bytes_back w _ _ _ ⟨K,0,none⟩ cap l tO wF tN (fun j hj=>by
  have:=(h.2 j hj).1
  by_cases e:j=0
  ·subst e;exact this
  ·simpa [Addr.add,e] using this)
theorem Rn (s w) (hs:s.size≤9223372036854775806) :
  Calls prog 80 #[.string s] w fun e w'=>e=.returned (.string (uL s))∧Below w.heap.size w w':=by
 obtain ⟨cap,w1,hconv,hb1,hB⟩:=Hv s w
 obtain ⟨K,hK⟩:=nm_ w.heap.size
 rw [hK] at hconv hB
 have HK:=hid hK
 have HB1:=hid hb1
 have HB:=hid hB
 clear hK hb1 hB
 go_enter func80,ntmps80
 go_wp2_with fail
 clear hconv
 go_loopg [10] (s.size+1) (fun k i wr=>∃n:Nat,i=.int .i64 n∧n≤s.size∧s.size - n<k∧Nh wr K (iC s n)∧Below K w wr)
 case atStart=>exact ⟨0,rfl,h_ _,by omega,by rw [Hu];exact HB.out,by have:=HB1.out;rwa [HK.out] at this⟩
 case round=>
  obtain ⟨n,rfl,hn,hnk,hbr,hbw⟩:=hrel
  obtain ⟨gk,rfl⟩:=pk_ gk 1 (by omega)
  have HBR:=hid hbr
  have HBW:=hid hbw
  clear hbr hbw
  by_cases hlt:n<s.size
  ·have hl:=tM s n
   obtain ⟨c0,f0⟩:=HBR.out.2 n (by omega)
   have he:(iC s n)[n]'(by omega)=s[n]:=by
    have:=Dv s n hlt
    rw [R_ (by omega)] at this
    exact e_ this
   rw [he] at c0
   have HL:=hid hl
   have hu:(s[n].toNat:Int)<256:=by have:=s[n].toNat_lt;omega
   have HLOW:=hid (Kv s[n])
   have HSUC:=hid (wD s n hlt)
   obtain ⟨c,hc⟩:=nm_ (s[n])
   rw [hc] at c0 hu HLOW HSUC
   have HC:=hid hc
   clear hl he hc
   by_cases h1:65≤(c.toNat:Int)
   ·by_cases h2:(c.toNat:Int)≤90
    ·have hs1:=HBR.out.set (low c) (by rw [HL.out];exact hlt)
     rw [HLOW.out,M_ ⟨h1,h2⟩,←HSUC.out] at hs1
     have HS1:=hid hs1
     clear hs1
     go_wp2_with fail
     go_roundg gk
     case measure=>omega
     case rel=>exact ⟨n+1,by go_num,by omega,by omega,HS1.out,HBW.out.setCell (by simp) _⟩
    ·have hsame:iC s (n+1)=iC s n:=wE hlt (by rw [HC.out];exact UInt8.toNat_inj.1 (by have:=HLOW.out;rw [K_ (fun hc=>h2 hc.2)] at this;omega))
     have HS1:=hid hsame
     clear hsame
     go_wp2_with fail
     go_roundg gk
     case measure=>omega
     case rel=>exact ⟨n+1,by go_num,by omega,by omega,by rw [HS1.out];exact HBR.out,HBW.out⟩
   ·have hsame:iC s (n+1)=iC s n:=wE hlt (by rw [HC.out];exact UInt8.toNat_inj.1 (by have:=HLOW.out;rw [K_ (fun hc=>h1 hc.1)] at this;omega))
    have HS1:=hid hsame
    clear hsame
    go_wp2_with fail
    go_roundg gk
    case measure=>omega
    case rel=>exact ⟨n+1,by go_num,by omega,by omega,by rw [HS1.out];exact HBR.out,HBW.out⟩
  ·obtain rfl:n=s.size:=by omega
   have hback:=Ni (cap:=cap) HBR.out (tM s s.size)
   rw [Ng] at hback
   go_wp2_with fail
   go_ret
   refine ⟨rfl,?_⟩
   have:=HBW.out
   rwa [←HK.out] at this
end Go.Proofs.YtgcfjkfipkfijaaGreatDoor
namespace Go.Proofs.YtgcfjkfipkfijaaGreatDoor
open Go Go.RowKit Go.Lib _root_.Go.Proofs.Tryz
theorem rX (l x):Lib.containsS l x=Dr x l:=by
 rw [Bool.eq_iff_iff,Lib.containsS_iff,Dr,List.any_eq_true]
 constructor
 ·intro h;exact ⟨x,h,bF.2 rfl⟩
 ·rintro ⟨y,hy,h⟩;rwa [←bF.1 h]
theorem Kw (a b):(a.toList == b.toList)=dK a b:=by rw [Lib.toList_data,Lib.toList_data];exact rfl
abbrev Vx:Array Value:=#[.string ⟨#[114,101,99,105,112,101]⟩,.string ⟨#[112,97,114,97,109]⟩,.string ⟨#[115,99,97,108,101,100]⟩,.string ⟨#[112,97,114]⟩,.string ⟨#[115,101,113]⟩,.string ⟨#[117,110,105,116]⟩,.string ⟨#[105,102]⟩,.string ⟨#[101,108,115,101]⟩,.string ⟨#[112,104,97,115,101]⟩]
theorem mF (t w) (hs:t.text.size≤9223372036854775806) :
  Calls prog 52 #[nO t] w fun e w'=>e=.returned (.string (eE t))∧Below w.heap.size w w':=by
 obtain ⟨k,s,n,a⟩:=t
 obtain ⟨x,hx⟩:=nm_ (eE ⟨k,s,n,a⟩)
 rw [hx]
 unfold eE at hx
 simp only at hx hs
 have HF:=hid (fun W=>Rn s W hs)
 obtain ⟨f,hf⟩:=nm_ (uL s)
 rw [hf] at hx HF
 have HX:=hid hx
 clear hx hf
 have HC:=hid (fun (W:World)=>Tryz.slices_Contains_string W.heap.size 0 9 9 eP f (W.alloc (.cells Vx 9)) (by decide) (by decide) (fun j hj=>by
  have h:=I_ W (.cells Vx 9)
  have hj:j<9:=hj
  rcases (show j=0∨j=1∨j=2∨j=3∨j=4∨j=5∨j=6∨j=7∨j=8 by omega) with rfl | rfl | rfl | rfl | rfl | rfl | rfl | rfl | rfl <;> exact aB h _))
 by_cases hk:k=1
 ·subst hk
  have hc:=rX (eP.take 9) f
  rw [show eP.take 9=eP from rfl] at hc
  cases hi:Dr f eP with
  | true=>
   rw [hi] at hc
   have h:=HX.out
   rw [M_ ⟨rfl,hi⟩] at h
   have HX1:=hid h
   have HCC:=hid hc
   clear hi hc h HX
   go_enter func52,ntmps52
   go_wp2_with fail
   refine (HF.out _).mono ?_
   rintro e w2 ⟨rfl,hb2⟩
   have HK2:=hid ((hb2.block w.heap.size (by simp)).trans (I_ w _))
   have HB2:=hid hb2
   obtain ⟨⟨k0,k1,k2,k3⟩,_⟩:=aK HK2.out
   clear hb2
   go_wp2_with fail
   refine (HC.out w2).mono ?_
   rw [show eP.take 9=eP from rfl,HCC.out]
   rintro e w3 ⟨rfl,rfl⟩
   go_wp2
   go_ret
   exact ⟨bV HX1.out,(((J_ _ _).alloc le_ _).trans (HB2.out.mono (by simp))).alloc (by have:=HB2.out.size;simp at this;omega) _⟩
  | false=>
   rw [hi] at hc
   have h:=HX.out
   rw [K_ (fun hc=>by rw [hi] at hc;exact absurd hc.2 (by decide))] at h
   have HX1:=hid h
   have HCC:=hid hc
   clear hi hc h HX
   go_enter func52,ntmps52
   go_wp2_with fail
   refine (HF.out _).mono ?_
   rintro e w2 ⟨rfl,hb2⟩
   have HK2:=hid ((hb2.block w.heap.size (by simp)).trans (I_ w _))
   have HB2:=hid hb2
   obtain ⟨⟨k0,k1,k2,k3⟩,_⟩:=aK HK2.out
   clear hb2
   go_wp2_with fail
   refine (HC.out w2).mono ?_
   rw [show eP.take 9=eP from rfl,HCC.out]
   rintro e w3 ⟨rfl,rfl⟩
   go_wp2
   go_ret
   exact ⟨bV HX1.out,(((J_ _ _).alloc le_ _).trans (HB2.out.mono (by simp))).alloc (by have:=HB2.out.size;simp at this;omega) _⟩
 ·have hkb:(k != 1)=true:=B_ hk
  have h:=HX.out
  rw [K_ (fun hc=>hk hc.1)] at h
  have HX1:=hid h
  clear hk h HX
  go_enter func52,ntmps52
  go_wp2_with fail
  refine (HF.out _).mono ?_
  rintro e w2 ⟨rfl,hb2⟩
  have HK2:=hid ((hb2.block w.heap.size (by simp)).trans (I_ w _))
  have HB2:=hid hb2
  obtain ⟨⟨k0,k1,k2,k3⟩,_⟩:=aK HK2.out
  clear hb2
  go_wp2_with fail
  go_ret
  exact ⟨bV HX1.out,((J_ _ _).alloc le_ _).trans (HB2.out.mono (by simp))⟩
structure fZ (l:List bQ):Prop where
 fin:oP l
 take:nR l
 text:∀i,(aE l i).text.size≤8192
def zJ (w:World) (g:Nat) (A:Option Addr) (n c:Nat) (s:RS):Prop:=
 w.heap[g]? = some (.cells #[.slice A n c,.int .i64 s.at_,.int .i64 s.bad,.int .i64 s.nodes] 51 (0,0))
structure mL (l:List bQ) (g:Nat) (A:Option Addr) (c:Nat) (w:World) (s:RS):Prop where
 rd:zJ w g A l.length c s
 row:cN.Row [g] w A l
 cap:l.length≤c
 inr:iY l s
theorem mL.step {l g c A w w' s} (h:mL l g A c w s) (hb:Below w.heap.size w w'):mL l g A c w' s:=
 ⟨(hb.block g (aC h.rd)).trans h.rd,h.row.keep (Same.of_below hb),h.cap,h.inr⟩
theorem mL.next {l g c A w w' s s'} (h:mL l g A c w s) (hr:zJ w' g A l.length c s') (hs:Same [g] w w') (hi:iY l s'):mL l g A c w' s':=
 ⟨hr,h.row.keep hs,h.cap,hi⟩
theorem mL.lt {l g c A w s} (h:mL l g A c w s):g<w.heap.size:=aC h.rd
theorem mL.set {l g c A w s} (h:mL l g A c w s) (i v):(w.setCell ⟨g,i,none⟩ v).heap[g]? = some (.cells (#[.slice A l.length c,.int .i64 s.at_,.int .i64 s.bad,.int .i64 s.nodes].setIfInBounds i v) 51 (0,0)):=aZ h.rd i v
abbrev Ys (g:Nat) (A:Option Addr) (n c:Nat) (v:Value) (s':RS) (w:World) (r:Ending) (w':World):Prop:=r=.returned v∧zJ w' g A n c s'∧Same [g] w w'
theorem tP {l:List bQ} {k:Nat} (hk:k<l.length):aE l (k:Int)=l[k]:=by
 unfold aE
 rw [K_ (by omega),Int.toNat_natCast,S_,R_ hk]
 exact rfl
section
variable {l : List bQ} {g c : Nat} {A : Option Addr} {s : RS} {w : World}
theorem mI (h:mL l g A c w s):Calls prog 28 #[.pointer (some ⟨g,0,none⟩)] w fun r w'=>r=.returned (.bool (s.bad == 0))∧w=w':=by
 obtain ⟨⟨c0,c1,c2,c3⟩,f0,f1,f2,f3⟩:=aK h.rd
 clear h
 go_enter func28,ntmps28
 go_wp2_with fail
 go_ret
 exact ⟨rfl,rfl⟩
theorem Dw {n} (h:zJ w g A n c s) (x):Calls prog 30 #[.pointer (some ⟨g,0,none⟩),.int .i64 x] w (Ys g A n c (.tuple #[]) (bB x s) w):=by
 obtain ⟨⟨c0,c1,c2,c3⟩,f0,f1,f2,f3⟩:=aK h
 have H:=hid h
 clear h
 by_cases hb:s.bad=0
 ·have hbb:(s.bad == 0)=true:=D_ hb
  have HB:=hid hb
  clear hb
  go_enter func30,ntmps30
  go_wp2_with fail
  refine L_ (v:=.tuple #[]) (by simp [results,results30,go_sem]) rfl ⟨rfl,?_,(Same.refl [g] w).setCell (.inl (by simp)) _⟩
  unfold bB
  rw [M_ HB.out]
  exact aZ H.out 2 _
 ·have hbb:(s.bad == 0)=false:=A_ hb
  have HB:=hid hb
  clear hb
  go_enter func30,ntmps30
  go_wp2_with fail
  refine L_ (v:=.tuple #[]) (by simp [results,results30,go_sem]) rfl ⟨rfl,?_,Same.refl [g] w⟩
  unfold bB
  rw [K_ HB.out]
  exact H.out
theorem iZ (h:mL l g A c w s) (x):Calls prog 30 #[.pointer (some ⟨g,0,none⟩),.int .i64 x] w (Ys g A l.length c (.tuple #[]) (bB x s) w):=Dw h.rd x
theorem dE (h:mL l g A c w s):Calls prog 29 #[.pointer (some ⟨g,0,none⟩)] w fun r w'=>r=.returned (nO (aE l s.at_))∧Below w.heap.size w w':=by
 obtain ⟨at_,bad,nodes⟩:=s
 obtain ⟨k,rfl⟩:=r_ (show 0≤at_ from h.inr.1)
 have hk:k<l.length:=by have:=h.inr.2.1;simp only at this;omega
 obtain ⟨ad,rfl⟩:=mR h.row (by omega)
 obtain ⟨x0,x1,x2,x3⟩:=lH h.row k hk
 have hlt:=N_ w _ x0
 have hm:=h.row.1
 have hg:=h.lt
 have HC:=hid (aK h.rd).1
 have HX:=hid (tP hk)
 have hkz:(k:Int)<l.length:=by omega
 have hk0:(0:Int)≤k:=by omega
 have hlcz:(l.length:Int)≤c:=by have:=h.cap;omega
 clear h
 go_enter func29,ntmps29
 go_wp2_with fail
 obtain ⟨w1,hw1⟩:=nm_ (w.alloc (.cells #[.int .i64 0,.string ⟨#[]⟩,.int .i64 0,.int .i64 0] 60 (0,0)))
 have hb1:Below w.heap.size w w1:=hw1▸(J_ _ _).alloc le_ _
 have hbb:w1.heap[w.heap.size]? = some (.cells #[.int .i64 0,.string ⟨#[]⟩,.int .i64 0,.int .i64 0] 60 (0,0)):=hw1▸I_ _ _
 rw [hw1]
 have q0:=(hb1.cell hg).trans HC.out.1
 have q1:=(hb1.cell hg).trans HC.out.2.1
 have y0:=(hb1.cell hlt).trans x0
 have y1:=(hb1.cell (N_ w _ x1)).trans x1
 have y2:=(hb1.cell (N_ w _ x2)).trans x2
 have y3:=(hb1.cell (N_ w _ x3)).trans x3
 obtain ⟨⟨z0,z1,z2,z3⟩,f0,f1,f2,f3⟩:=aK hbb
 have HB:=hid hb1
 clear hb1 hbb hw1
 go_region_with (fail)
 all_goals
  go_wp2
  refine L_ (v:=nO l[k]) (by simp [results,results29,go_sem, *]) rfl ⟨by rw [HX.out],?_⟩
  exact Below.drew (aH HB.out le_ _ _ _ _)
end
end Go.Proofs.YtgcfjkfipkfijaaGreatDoor
namespace Go.Proofs.YtgcfjkfipkfijaaGreatDoor
open Go Go.RowKit Go.Lib _root_.Go.Proofs.Tryz
section
variable {l : List bQ} {g c : Nat} {A : Option Addr} {s : RS} {w : World}
theorem zK (T:fZ l) (h:mL l g A c w s) (x):Calls prog 54 #[.pointer (some ⟨g,0,none⟩),.string x] w fun r w'=>r=.returned (.bool (dN l x s))∧Below w.heap.size w w':=by
 have HOK:=hid (mI h)
 have HTK:=hid (dE h)
 obtain ⟨t,ht⟩:=nm_ (aE l s.at_)
 have HKY:=hid (fun W=>mF t W (by have:=T.text s.at_;rw [ht] at this;omega))
 obtain ⟨q,hq⟩:=nm_ (dK (eE t) x)
 have HQ:=hid hq
 have HX:Hid (dN l x s=(s.bad == 0 && q)):=hid (by unfold dN;rw [ht,hq])
 rw [ht] at HTK
 have hq':((eE t).toList == x.toList)=q:=by rw [Kw];exact hq
 clear h hq ht
 by_cases hb:s.bad=0
 ·have hbb:(s.bad == 0)=true:=D_ hb
  rw [hbb] at HOK HX
  clear hb hbb
  go_enter func54,ntmps54
  go_wp2_with fail
  refine HOK.out.mono ?_
  rintro e w1 ⟨rfl,rfl⟩
  go_wp2_with fail
  refine HTK.out.mono ?_
  rintro e w2 ⟨rfl,hb2⟩
  have HB2:=hid hb2
  clear hb2
  go_wp2_with fail
  refine (HKY.out w2).mono ?_
  rintro e w3 ⟨rfl,hb3⟩
  have HB3:=tm_ HB2 hb3
  clear hb3
  go_wp2_with fail
  go_ret
  exact ⟨by rw [HX.out];rfl,HB3.out⟩
 ·have hbb:(s.bad == 0)=false:=A_ hb
  rw [hbb] at HOK HX
  clear hb hbb
  go_enter func54,ntmps54
  go_wp2_with fail
  refine HOK.out.mono ?_
  rintro e w1 ⟨rfl,rfl⟩
  go_wp2_with fail
  go_ret
  exact ⟨by rw [HX.out];rfl,J_ _ _⟩
theorem qT (h:mL l g A c w s) (x):Calls prog 55 #[.pointer (some ⟨g,0,none⟩),.string x] w fun r w'=>r=.returned (.bool (bZ l x s))∧Below w.heap.size w w':=by
 have HOK:=hid (fun W (hb:Below w.heap.size w W)=>mI (h.step hb))
 have HTK:=hid (dE h)
 obtain ⟨t,ht⟩:=nm_ (aE l s.at_)
 obtain ⟨q,hq⟩:=nm_ (dK t.text x)
 obtain ⟨p,hp⟩:=nm_ (t.kind == 4)
 obtain ⟨b,hb⟩:=nm_ (s.bad == 0)
 have HX:Hid (bZ l x s=(b && (p && q))):=hid (by unfold bZ;rw [ht,hq,hp,hb])
 rw [ht] at HTK
 rw [hb] at HOK
 have hq':(t.text.toList == x.toList)=q:=by rw [Kw];exact hq
 clear h hq ht hb
 go_enter func55,ntmps55
 go_wp2_with fail
 refine HTK.out.mono ?_
 rintro e w2 ⟨rfl,hb2⟩
 have HB2:=hid (hb2.alloc hb2.size (.cells #[.int .i64 t.kind,.string t.text,.int .i64 t.n,.int .i64 t.at_] 60 (0,0)))
 obtain ⟨⟨k0,k1,k2,k3⟩,_⟩:=aK (I_ w2 (.cells #[.int .i64 t.kind,.string t.text,.int .i64 t.n,.int .i64 t.at_] 60 (0,0)))
 clear hb2
 cases b
 ·go_wp2_with fail
  refine (HOK.out _ HB2.out).mono ?_
  rintro e w3 ⟨rfl,rfl⟩
  go_wp2_with fail
  go_ret
  exact ⟨by rw [HX.out];rfl,HB2.out⟩
 ·cases p
  all_goals
   go_wp2_with fail
   refine (HOK.out _ HB2.out).mono ?_
   rintro e w3 ⟨rfl,rfl⟩
   go_wp2_with fail
   go_ret
   exact ⟨by rw [HX.out];rfl,HB2.out⟩
theorem eH (T:fZ l) (h:mL l g A c w s) (x):Calls prog 51 #[.pointer (some ⟨g,0,none⟩),.string x] w (Ys g A l.length c (.bool (aF l x s).1) (aF l x s).2 w):=by
 have HK:=hid (zK T h x)
 have HS:=hid (fun W (hb:Below w.heap.size w W)=>qT (h.step hb) x)
 have H:=hid h
 have hin:=h.inr.2.1
 have hin0:=h.inr.1
 have hlr:=h.row.1
 have HX:Hid (aF l x s=if (dN l x s || bZ l x s)=true then (true,fQ s) else (false,s)):=rfl
 have hadd:IntKind.i64.wrap (s.at_+1)=s.at_+1:=IntWalk.i64_in _ (by omega)
 clear h
 cases hk:dN l x s with
 | true=>
  rw [hk] at HK HX
  clear hk
  go_enter func51,ntmps51
  go_wp2_with fail
  refine HK.out.mono ?_
  rintro e w2 ⟨rfl,hb2⟩
  have H2:=hid (H.out.step hb2)
  have HB2:=hid hb2
  obtain ⟨⟨c0,c1,c2,c3⟩,f0,f1,f2,f3⟩:=aK H2.out.rd
  clear hb2
  go_wp2_with fail
  go_ret
  refine ⟨by rw [HX.out];rfl,?_,(Same.of_below HB2.out).setCell (.inl (by simp)) _⟩
  rw [HX.out]
  exact H2.out.set 1 _
 | false=>
  rw [hk] at HK HX
  clear hk
  cases hs:bZ l x s with
  | true=>
   rw [hs] at HS HX
   clear hs
   go_enter func51,ntmps51
   go_wp2_with fail
   refine HK.out.mono ?_
   rintro e w2 ⟨rfl,hb2⟩
   have HB2:=hid hb2
   clear hb2
   go_wp2_with fail
   refine (HS.out w2 HB2.out).mono ?_
   rintro e w3 ⟨rfl,hb3⟩
   have HB3:=tm_ HB2 hb3
   have H2:=hid (H.out.step HB3.out)
   obtain ⟨⟨c0,c1,c2,c3⟩,f0,f1,f2,f3⟩:=aK H2.out.rd
   clear hb3
   go_wp2_with fail
   go_ret
   refine ⟨by rw [HX.out];rfl,?_,(Same.of_below HB3.out).setCell (.inl (by simp)) _⟩
   rw [HX.out]
   exact H2.out.set 1 _
  | false=>
   rw [hs] at HS HX
   clear hs
   go_enter func51,ntmps51
   go_wp2_with fail
   refine HK.out.mono ?_
   rintro e w2 ⟨rfl,hb2⟩
   have HB2:=hid hb2
   clear hb2
   go_wp2_with fail
   refine (HS.out w2 HB2.out).mono ?_
   rintro e w3 ⟨rfl,hb3⟩
   have HB3:=tm_ HB2 hb3
   clear hb3
   go_wp2_with fail
   go_ret
   refine ⟨by rw [HX.out];rfl,?_,Same.of_below HB3.out⟩
   rw [HX.out]
   exact (H.out.step HB3.out).rd
theorem gL (T:fZ l) (h:mL l g A c w s) (x) (hx:x.size≠0):Calls prog 24 #[.pointer (some ⟨g,0,none⟩),.string x] w (Ys g A l.length c (.tuple #[]) (bC l x s) w):=by
 have HTK:=hid (eH T h x)
 have HN:=hid (fun W (hr:zJ W g A l.length c (aF l x s).2) (hs:Same [g] w W)=>iZ (h.next hr hs (bK T.fin x hx h.inr).1) 11)
 have HX:Hid (bC l x s=if (aF l x s).1=true then (aF l x s).2 else bB 11 (aF l x s).2):=rfl
 obtain ⟨⟨b,s'⟩,hp⟩:∃p,aF l x s=p:=⟨_,rfl⟩
 rw [hp] at HTK HN HX
 clear h hp
 cases b
 ·go_enter func24,ntmps24
  go_wp2_with fail
  refine HTK.out.mono ?_
  rintro e w2 ⟨rfl,hr2,hs2⟩
  have H2:=hj_ hr2 hs2
  clear hr2 hs2
  go_wp2_with fail
  refine (HN.out w2 H2.out.1 H2.out.2).mono ?_
  rintro e w3 ⟨rfl,hr3,hs3⟩
  have H3:=hj_ hr3 hs3
  clear hr3 hs3
  go_wp2_with fail
  refine L_ (v:=.tuple #[]) (by simp [results,results24,go_sem]) rfl ⟨rfl,?_,H2.out.2.then_ H3.out.2⟩
  rw [HX.out]
  exact H3.out.1
 ·go_enter func24,ntmps24
  go_wp2_with fail
  refine HTK.out.mono ?_
  rintro e w2 ⟨rfl,hr2,hs2⟩
  have H2:=hj_ hr2 hs2
  clear hr2 hs2
  go_wp2_with fail
  refine L_ (v:=.tuple #[]) (by simp [results,results24,go_sem]) rfl ⟨rfl,?_,H2.out.2⟩
  rw [HX.out]
  exact H2.out.1
end
end Go.Proofs.YtgcfjkfipkfijaaGreatDoor
namespace Go.Proofs.YtgcfjkfipkfijaaGreatDoor
open Go Go.RowKit Go.Lib _root_.Go.Proofs.Tryz
def mJ (w:World) (a:Option Addr) (ss:List ByteArray):Prop:=
 ss.length≤9223372036854775807∧(0<ss.length→∃b off,a=some ⟨b,off,none⟩∧∀j,j<ss.length→w.cell? ⟨b,off+j,none⟩=some (.string (ss.getD j ByteArray.empty)))
theorem mJ.nil (w a):mJ w a []:=⟨by simp,fun h=>absurd h (by simp)⟩
theorem mJ.keep {w w' a ss M} (h:mJ w a ss) (hs:Same M w w') (hM:∀b off,a=some ⟨b,off,none⟩→b∉M):mJ w' a ss:=
 ⟨h.1,fun hn=>by
  obtain ⟨b,off,e,hc⟩:=h.2 hn
  exact ⟨b,off,e,fun j hj=>hs.cell (hM b off e) (hc j hj)⟩⟩
theorem mJ.step {w w' a ss} (h:mJ w a ss) (hs:Below w.heap.size w w'):mJ w' a ss:=h.keep (M:=[]) (Same.of_below hs) (fun _ _ _=>by simp)
theorem rY {w a ss} (h:mJ w a ss) (c x) :
  Calls prog 53 #[.slice a ss.length c,.string x] w fun e w'=>e=.returned (.bool (Dr x ss))∧w=w':=by
 cases ss with
 | nil=>exact (Tryz.slices_Contains_string_empty a c x w).mono (fun _ _ h=>⟨h.1,h.2.symm⟩)
 | cons y ys=>
  obtain ⟨b,off,rfl,hc⟩:=h.2 (by simp)
  have h1:=Tryz.slices_Contains_string b off (y::ys).length c (y::ys) x w le_ h.1 hc
  rw [rX,List.take_of_length_le le_] at h1
  exact h1.mono (fun _ _ h=>⟨h.1,h.2.symm⟩)
theorem Ro {s:ByteArray} (h:s.size=0):s=⟨#[]⟩:=by
 obtain ⟨d⟩:=s
 have:d=#[]:=Array.eq_empty_of_size_eq_zero h
 rw [this]
section
variable {l : List bQ} {g c : Nat} {A : Option Addr} {s : RS} {w : World}
theorem kU (T:fZ l) (h:mL l g A c w s) {a cc had} (hh:mJ w a had) :
  Calls prog 25 #[.pointer (some ⟨g,0,none⟩),.slice a had.length cc] w (Ys g A l.length c (.string (bG l had s).1) (bG l had s).2 w):=by
 have HOK:=hid (fun W (hb:Below w.heap.size w W)=>mI (h.step hb))
 have HTK:=hid (dE h)
 have HFL:=hid (fun W (hb:Below w.heap.size w W) x=>iZ (h.step hb) x)
 have HCN:=hid (fun W (hb:Below w.heap.size w W) x=>rY (hh.step hb) cc x)
 have H:=hid h
 obtain ⟨t,ht⟩:=nm_ (aE l s.at_)
 have HKY:=hid (fun W=>mF t W (by have:=T.text s.at_;rw [ht] at this;omega))
 have hin:=h.inr.2.1
 have hin0:=h.inr.1
 have hlr:=h.row.1
 have hadd:IntKind.i64.wrap (s.at_+1)=s.at_+1:=IntWalk.i64_in _ (by omega)
 have HX:Hid (bG l had s=if s.bad≠0 then (⟨#[]⟩,s) else if (t.kind == 1 && (eE t).size == 0)=false then (⟨#[]⟩,bB 11 s) else if Dr t.text had=true then (⟨#[]⟩,bB 5 s) else (t.text,fQ s)):=hid (by unfold bG kC;rw [ht])
 rw [ht] at HTK
 have hlt:=h.lt
 clear h hh ht
 by_cases hb:s.bad=0
 ·have hbb:(s.bad == 0)=true:=D_ hb
  have h1:=HX.out
  rw [K_ (by simpa using hb)] at h1
  rw [hbb] at HOK
  clear HX hb hbb
  by_cases hk:t.kind=1
  ·have hkb:(t.kind != 1)=false:=by rw [hk];rfl
   rw [hk] at h1
   by_cases hy:(eE t).size=0
   ·have e0:=Ro hy
    rw [hy] at h1
    rw [K_ (by decide)] at h1
    rw [e0] at HKY
    cases hi:Dr t.text had with
    | true=>
     have HI:=hid hi
     rw [hi,M_ rfl] at h1
     have HX:=hid h1
     clear h1 hi hk hy e0
     go_enter func25,ntmps25
     go_wp2_with fail
     refine HTK.out.mono ?_
     rintro e w2 ⟨rfl,hb2⟩
     have HB2:=hid (hb2.alloc hb2.size (.cells #[.int .i64 t.kind,.string t.text,.int .i64 t.n,.int .i64 t.at_] 60 (0,0)))
     have HN2:=hid (I_ w2 (.cells #[.int .i64 t.kind,.string t.text,.int .i64 t.n,.int .i64 t.at_] 60 (0,0)))
     obtain ⟨⟨k0,k1,k2,k3⟩,_⟩:=aK HN2.out
     clear hb2
     go_wp2_with fail
     refine (HOK.out _ HB2.out).mono ?_
     rintro e w3 ⟨rfl,rfl⟩
     go_wp2_with fail
     refine (HKY.out _).mono ?_
     rintro e w4 ⟨rfl,hb4⟩
     have HB4:=tm_ HB2 hb4
     have hn4:=(hb4.block w2.heap.size (by simp)).trans HN2.out
     obtain ⟨⟨m0,m1,m2,m3⟩,_⟩:=aK hn4
     clear hb4 hn4
     go_wp2_with fail
     refine (HCN.out w4 HB4.out _).mono ?_
     rw [HI.out]
     rintro e w5 ⟨rfl,rfl⟩
     go_wp2_with fail
     refine (HFL.out _ HB4.out _).mono ?_
     rintro e w5 ⟨rfl,hr5,hs5⟩
     have H5:=hj_ hr5 hs5
     clear hr5 hs5
     go_wp2_with fail
     go_ret
     exact ⟨bV (c_ Prod.fst HX.out).symm,by rw [HX.out];exact H5.out.1,(Same.of_below HB4.out).then_ H5.out.2⟩
    | false=>
     have HI:=hid hi
     rw [hi,K_ (by decide)] at h1
     have HX:=hid h1
     clear h1 hi hk hy e0
     go_enter func25,ntmps25
     go_wp2_with fail
     refine HTK.out.mono ?_
     rintro e w2 ⟨rfl,hb2⟩
     have HB2:=hid (hb2.alloc hb2.size (.cells #[.int .i64 t.kind,.string t.text,.int .i64 t.n,.int .i64 t.at_] 60 (0,0)))
     have HN2:=hid (I_ w2 (.cells #[.int .i64 t.kind,.string t.text,.int .i64 t.n,.int .i64 t.at_] 60 (0,0)))
     obtain ⟨⟨k0,k1,k2,k3⟩,_⟩:=aK HN2.out
     have hg2:g≠w2.heap.size:=by have:=hb2.size;omega
     clear hb2
     go_wp2_with fail
     refine (HOK.out _ HB2.out).mono ?_
     rintro e w3 ⟨rfl,rfl⟩
     go_wp2_with fail
     refine (HKY.out _).mono ?_
     rintro e w4 ⟨rfl,hb4⟩
     have HB4:=tm_ HB2 hb4
     have hn4:=(hb4.block w2.heap.size (by simp)).trans HN2.out
     obtain ⟨⟨m0,m1,m2,m3⟩,_⟩:=aK hn4
     have H4:=hid (H.out.step HB4.out)
     obtain ⟨⟨c0,c1,c2,c3⟩,f0,f1,f2,f3⟩:=aK H4.out.rd
     clear hb4 hn4
     go_wp2_with fail
     refine (HCN.out w4 HB4.out _).mono ?_
     rw [HI.out]
     rintro e w5 ⟨rfl,rfl⟩
     go_wp2_with fail
     go_ret
     exact ⟨bV (c_ Prod.fst HX.out).symm,by rw [HX.out];exact H4.out.set 1 _,(Same.of_below HB4.out).setCell (.inl (by simp)) _⟩
   ·have e0:=iX hy
    rw [M_ (by rw [A_ hy];rfl)] at h1
    have HX:=hid h1
    obtain ⟨y,hyy⟩:=nm_ (eE t)
    rw [hyy] at HKY e0
    have e1:(!y.toList.isEmpty)=true:=by rw [e0];rfl
    have e2:(y.toList=[])=False:=by
     rw [eq_iff_iff]
     exact ⟨fun hc=>by rw [hc] at e0;exact absurd e0 (by decide),False.elim⟩
    clear h1 hk hy hyy
    go_enter func25,ntmps25
    go_wp2_with fail
    refine HTK.out.mono ?_
    rintro e w2 ⟨rfl,hb2⟩
    have HB2:=hid (hb2.alloc hb2.size (.cells #[.int .i64 t.kind,.string t.text,.int .i64 t.n,.int .i64 t.at_] 60 (0,0)))
    have HN2:=hid (I_ w2 (.cells #[.int .i64 t.kind,.string t.text,.int .i64 t.n,.int .i64 t.at_] 60 (0,0)))
    obtain ⟨⟨k0,k1,k2,k3⟩,_⟩:=aK HN2.out
    clear hb2
    go_wp2_with fail
    refine (HOK.out _ HB2.out).mono ?_
    rintro e w3 ⟨rfl,rfl⟩
    go_wp2_with fail
    refine (HKY.out _).mono ?_
    rintro e w4 ⟨rfl,hb4⟩
    have HB4:=tm_ HB2 hb4
    clear hb4
    go_wp2_with fail
    refine (HFL.out _ HB4.out _).mono ?_
    rintro e w5 ⟨rfl,hr5,hs5⟩
    have H5:=hj_ hr5 hs5
    clear hr5 hs5
    go_wp2_with fail
    go_ret
    exact ⟨bV (c_ Prod.fst HX.out).symm,by rw [HX.out];exact H5.out.1,(Same.of_below HB4.out).then_ H5.out.2⟩
  ·have hkb:(t.kind != 1)=true:=B_ hk
   rw [M_ (by rw [A_ hk];rfl)] at h1
   have HX:=hid h1
   clear h1 hk
   go_enter func25,ntmps25
   go_wp2_with fail
   refine HTK.out.mono ?_
   rintro e w2 ⟨rfl,hb2⟩
   have HB2:=hid (hb2.alloc hb2.size (.cells #[.int .i64 t.kind,.string t.text,.int .i64 t.n,.int .i64 t.at_] 60 (0,0)))
   have HN2:=hid (I_ w2 (.cells #[.int .i64 t.kind,.string t.text,.int .i64 t.n,.int .i64 t.at_] 60 (0,0)))
   obtain ⟨⟨k0,k1,k2,k3⟩,_⟩:=aK HN2.out
   clear hb2
   go_wp2_with fail
   refine (HOK.out _ HB2.out).mono ?_
   rintro e w3 ⟨rfl,rfl⟩
   go_wp2_with fail
   refine (HFL.out _ HB2.out _).mono ?_
   rintro e w5 ⟨rfl,hr5,hs5⟩
   have H5:=hj_ hr5 hs5
   clear hr5 hs5
   go_wp2_with fail
   go_ret
   exact ⟨bV (c_ Prod.fst HX.out).symm,by rw [HX.out];exact H5.out.1,(Same.of_below HB2.out).then_ H5.out.2⟩
 ·have hbb:(s.bad == 0)=false:=A_ hb
  have h1:=HX.out
  rw [M_ (by simpa using hb)] at h1
  rw [hbb] at HOK
  have HX:=hid h1
  clear h1 hb hbb
  go_enter func25,ntmps25
  go_wp2_with fail
  refine HTK.out.mono ?_
  rintro e w2 ⟨rfl,hb2⟩
  have HB2:=hid (hb2.alloc hb2.size (.cells #[.int .i64 t.kind,.string t.text,.int .i64 t.n,.int .i64 t.at_] 60 (0,0)))
  clear hb2
  go_wp2_with fail
  refine (HOK.out _ HB2.out).mono ?_
  rintro e w3 ⟨rfl,rfl⟩
  go_wp2_with fail
  go_ret
  exact ⟨bV (c_ Prod.fst HX.out).symm,by rw [HX.out];exact (H.out.step HB2.out).rd,Same.of_below HB2.out⟩
theorem Dx (T:fZ l) (h:mL l g A c w s) (n most) :
  Calls prog 83 #[.pointer (some ⟨g,0,none⟩),.int .i64 n,.int .i64 most] w (Ys g A l.length c (.tuple #[]) (cS l n most s) w):=by
 have HTK:=hid (dE h)
 have HFL:=hid (fun W (hb:Below w.heap.size w W) x=>iZ (h.step hb) x)
 have H:=hid h
 obtain ⟨t,ht⟩:=nm_ (aE l s.at_)
 have HKY:=hid (fun W=>mF t W (by have:=T.text s.at_;rw [ht] at this;omega))
 have h1:cS l n most s=if n=most∧(t.kind == 1 && (eE t).size == 0)=true then bB 2 s else s:=by unfold cS kC;rw [ht]
 rw [ht] at HTK
 clear h ht
 by_cases hn:n=most
 ·have hnb:(n == most)=true:=D_ hn
  by_cases hk:t.kind=1
  ·have hkb:(t.kind == 1)=true:=D_ hk
   by_cases hy:(eE t).size=0
   ·have e0:=Ro hy
    rw [M_ ⟨hn,by rw [hkb,hy];rfl⟩] at h1
    have HX:=hid h1
    rw [e0] at HKY
    clear h1 hk hy e0 hn
    go_enter func83,ntmps83
    go_wp2_with fail
    refine HTK.out.mono ?_
    rintro e w2 ⟨rfl,hb2⟩
    have HB2:=hid (hb2.alloc hb2.size (.cells #[.int .i64 t.kind,.string t.text,.int .i64 t.n,.int .i64 t.at_] 60 (0,0)))
    obtain ⟨⟨k0,k1,k2,k3⟩,_⟩:=aK (I_ w2 (.cells #[.int .i64 t.kind,.string t.text,.int .i64 t.n,.int .i64 t.at_] 60 (0,0)))
    clear hb2
    go_wp2_with fail
    refine (HKY.out _).mono ?_
    rintro e w4 ⟨rfl,hb4⟩
    have HB4:=tm_ HB2 hb4
    clear hb4
    go_wp2_with fail
    refine (HFL.out _ HB4.out _).mono ?_
    rintro e w5 ⟨rfl,hr5,hs5⟩
    have H5:=hj_ hr5 hs5
    clear hr5 hs5
    go_wp2_with fail
    refine L_ (v:=.tuple #[]) (by simp [results,results83,go_sem]) rfl ⟨rfl,by rw [HX.out];exact H5.out.1,(Same.of_below HB4.out).then_ H5.out.2⟩
   ·have e0:=iX hy
    rw [K_ (by rw [A_ hy,Bool.and_false];simp)] at h1
    have HX:=hid h1
    obtain ⟨y,hyy⟩:=nm_ (eE t)
    rw [hyy] at HKY e0
    clear h1 hk hy hyy hn
    go_enter func83,ntmps83
    go_wp2_with fail
    refine HTK.out.mono ?_
    rintro e w2 ⟨rfl,hb2⟩
    have HB2:=hid (hb2.alloc hb2.size (.cells #[.int .i64 t.kind,.string t.text,.int .i64 t.n,.int .i64 t.at_] 60 (0,0)))
    obtain ⟨⟨k0,k1,k2,k3⟩,_⟩:=aK (I_ w2 (.cells #[.int .i64 t.kind,.string t.text,.int .i64 t.n,.int .i64 t.at_] 60 (0,0)))
    clear hb2
    go_wp2_with fail
    refine (HKY.out _).mono ?_
    rintro e w4 ⟨rfl,hb4⟩
    have HB4:=tm_ HB2 hb4
    clear hb4
    go_wp2_with fail
    refine L_ (v:=.tuple #[]) (by simp [results,results83,go_sem]) rfl ⟨rfl,by rw [HX.out];exact (H.out.step HB4.out).rd,Same.of_below HB4.out⟩
  ·have hkb:(t.kind == 1)=false:=A_ hk
   rw [K_ (by rw [hkb];simp)] at h1
   have HX:=hid h1
   clear h1 hk hn
   go_enter func83,ntmps83
   go_wp2_with fail
   refine HTK.out.mono ?_
   rintro e w2 ⟨rfl,hb2⟩
   have HB2:=hid (hb2.alloc hb2.size (.cells #[.int .i64 t.kind,.string t.text,.int .i64 t.n,.int .i64 t.at_] 60 (0,0)))
   obtain ⟨⟨k0,k1,k2,k3⟩,_⟩:=aK (I_ w2 (.cells #[.int .i64 t.kind,.string t.text,.int .i64 t.n,.int .i64 t.at_] 60 (0,0)))
   clear hb2
   go_wp2_with fail
   refine L_ (v:=.tuple #[]) (by simp [results,results83,go_sem]) rfl ⟨rfl,by rw [HX.out];exact (H.out.step HB2.out).rd,Same.of_below HB2.out⟩
 ·have hnb:(n == most)=false:=A_ hn
  rw [K_ (fun hc=>hn hc.1)] at h1
  have HX:=hid h1
  clear h1 hn
  go_enter func83,ntmps83
  go_wp2_with fail
  refine HTK.out.mono ?_
  rintro e w2 ⟨rfl,hb2⟩
  have HB2:=hid (hb2.alloc hb2.size (.cells #[.int .i64 t.kind,.string t.text,.int .i64 t.n,.int .i64 t.at_] 60 (0,0)))
  clear hb2
  go_wp2_with fail
  refine L_ (v:=.tuple #[]) (by simp [results,results83,go_sem]) rfl ⟨rfl,by rw [HX.out];exact (H.out.step HB2.out).rd,Same.of_below HB2.out⟩
theorem pS (h:mL l g A c w s) (n) (hn:1≤n) (hn3:n≤3) :
  Calls prog 82 #[.pointer (some ⟨g,0,none⟩),.int .i64 n] w (Ys g A l.length c (.tuple #[]) (aU n s) w):=by
 obtain ⟨⟨c0,c1,c2,c3⟩,f0,f1,f2,f3⟩:=aK h.rd
 have h0:=h.inr.2.2.1
 have h27:=h.inr.2.2.2.1
 have hadd:IntKind.i64.wrap (s.nodes+n)=s.nodes+n:=IntWalk.i64_in _ (by omega)
 have HR:Hid (zJ (w.setCell ⟨g,3,none⟩ (.int .i64 (s.nodes+n))) g A l.length c { s with nodes:=s.nodes+n }):=h.set 3 _
 have HFL:=hid (Dw HR.out 2)
 have H:=hid h
 clear h
 by_cases hm:24<s.nodes+n
 ·have hmb:decide (24<s.nodes+n)=true:=W_ hm
  have HX:Hid (aU n s=bB 2 { s with nodes:=s.nodes+n }):=hid (by unfold aU;rw [M_ hm])
  clear hm
  go_enter func82,ntmps82
  go_wp2_with fail
  refine HFL.out.mono ?_
  rintro e w5 ⟨rfl,hr5,hs5⟩
  have H5:=hj_ hr5 hs5
  clear hr5 hs5
  go_wp2_with fail
  refine L_ (v:=.tuple #[]) (by simp [results,results82,go_sem]) rfl ⟨rfl,by rw [HX.out];exact H5.out.1,((Same.refl [g] w).setCell (.inl (by simp)) _).then_ H5.out.2⟩
 ·have hmb:decide (24<s.nodes+n)=false:=V_ hm
  have HX:Hid (aU n s={ s with nodes:=s.nodes+n }):=hid (by unfold aU;rw [K_ hm])
  clear hm
  go_enter func82,ntmps82
  go_wp2_with fail
  refine L_ (v:=.tuple #[]) (by simp [results,results82,go_sem]) rfl ⟨rfl,by rw [HX.out];exact HR.out,(Same.refl [g] w).setCell (.inl (by simp)) _⟩
end
end Go.Proofs.YtgcfjkfipkfijaaGreatDoor
namespace Go.Proofs.YtgcfjkfipkfijaaGreatDoor
open Go Go.RowKit Go.Lib _root_.Go.Proofs.Tryz
def Ky (g:Nat) (A:Option Addr) (n c:Nat) (p:Ex × RS) (w:World) (r:Ending) (w':World):Prop:=
 ∃B d,r=.returned (eJ p.1 B d)∧cR (fun k=>k<w.heap.size) w' p.1 B d∧zJ w' g A n c p.2∧Same [g] w w'
abbrev Yg:Obj:=.cells #[.int .i64 0,.int .i64 0,.string ⟨#[]⟩,.slice none 0 0] 41 (0,0)
section
variable {l : List bQ} {g c : Nat} {A : Option Addr} {s : RS} {w : World}
theorem Vy {n K b d k2 B e W} (hx:cR (fun k=>k<b∨k=k2) W e B d) (hr:zJ W g A n c s) (hw:Below w.heap.size w W) (hK:w.heap.size=K) (hg:g<K) (hKb:K<b) (tp te v0 v1 v2 v3) :
  Ky g A n c (e,⟨tp,te,s.nodes⟩) w (.returned (eJ e B d)) ((((((W.setCell ⟨g,1,none⟩ (.int .i64 tp)).setCell ⟨g,2,none⟩ (.int .i64 te)).setCell ⟨K,0,none⟩ v0).setCell ⟨K,1,none⟩ v1).setCell ⟨K,2,none⟩ v2).setCell ⟨K,3,none⟩ v3):=by
 have h2:Same [g,K] W ((W.setCell ⟨g,1,none⟩ (.int .i64 tp)).setCell ⟨g,2,none⟩ (.int .i64 te)):=((Same.refl [g,K] W).setCell (.inl (by simp)) _).setCell (.inl (by simp)) _
 have h6:=h2.trans (bS ((W.setCell ⟨g,1,none⟩ (.int .i64 tp)).setCell ⟨g,2,none⟩ (.int .i64 te)) K v0 v1 v2 v3) (fun x hx=>by simp at hx;subst hx;simp)
 have hs4:=bS ((W.setCell ⟨g,1,none⟩ (.int .i64 tp)).setCell ⟨g,2,none⟩ (.int .i64 te)) K v0 v1 v2 v3
 refine ⟨B,d,rfl,(hx.keep h6 (fun k hk=>by simp at hk;omega)).more (fun k hk=>.inl (.inl (by omega))),hs4.heap (by simp;omega) (aZ (aZ hr 1 _) 2 _),?_⟩
 exact ((Same.of_below (M:=[g]) hw).trans (((Same.refl [g] W).setCell (.inl (by simp)) _).setCell (.inl (by simp)) _) (fun x hx=>.inl hx)).trans hs4 (fun x hx=>by simp at hx;exact .inr (by omega))
theorem zL (_T:fZ l) (h:mL l g A c w s):Calls prog 84 #[.pointer (some ⟨g,0,none⟩)] w (Ky g A l.length c (dZ l s) w):=by
 obtain ⟨w1,hw1,hb1,hz1⟩:=alo_ w Yg
 have HOK:=hid (mI (h.step hb1))
 have H1:=hid (h.step hb1)
 obtain ⟨K,hK⟩:=nm_ w.heap.size
 have hg:=h.lt
 have HTA:=hid (fun W (hW:Below w1.heap.size w1 W)=>Rl l A c s.at_ W ((h.row.less (M':=[]) (fun k hk=>by simp at hk)).keep (Same.of_below (M:=[]) (hb1.trans (hW.mono hb1.size)))) h.cap (by have:=h.inr.1;omega))
 rw [hK] at hz1 hg
 have HB1:=hj_ hb1 hz1
 have HW1:=hid hw1
 have hk1:K<w1.heap.size:=aC hz1
 obtain ⟨⟨z0,z1,z2,z3⟩,f0,f1,f2,f3⟩:=aK hz1
 obtain ⟨⟨c0,c1,c2,c3⟩,e0,e1,e2,e3⟩:=aK H1.out.rd
 have HX:Hid (dZ l s=if s.bad≠0 then (eD,s) else ((gZ l s.at_).1,⟨(gZ l s.at_).2.2,(gZ l s.at_).2.1,s.nodes⟩)):=rfl
 have HK:=hid hK
 have hg1:g<w1.heap.size:=by omega
 clear hw1 hb1 hz1 h hK
 by_cases hb:s.bad=0
 ·have hbb:(s.bad == 0)=true:=D_ hb
  have h1:=HX.out
  rw [K_ (by simpa using hb)] at h1
  rw [hbb] at HOK
  obtain ⟨⟨e,te,tp⟩,hp⟩:∃p,gZ l s.at_=p:=⟨_,rfl⟩
  rw [hp] at h1 HTA
  have HX:=hid h1
  clear h1 hb hbb hp
  go_enter func84,ntmps84
  go_wp2_with fail
  rw [HW1.out,HK.out]
  refine HOK.out.mono ?_
  rintro e w2 ⟨rfl,rfl⟩
  go_wp2_with fail
  go_cut [3,4,5] (fun s3 s4 s5 wx=>∃k2 B d,s3=.pointer (some ⟨k2,0,none⟩)∧s4=.int .i64 te∧s5=.int .i64 tp∧w1.heap.size≤k2∧wx.heap[k2]? = some (.cells #[.int .i64 e.op,.int .i64 e.n,.string e.name,.slice B e.kids.length d] 41 (0,0)) ∧
   cR (fun k=>k<w1.heap.size∨k=k2) wx e B d∧Below w1.heap.size w1 wx)
  case first=>
   go_region_with (first
    | (go_at_call 108;refine (HTA.out _ (J_ _ _).drew).mono ?_;rintro r w3 ⟨B,d,rfl,hx3,hb3⟩;have H3:=hid (⟨hx3,hb3⟩:_∧_);clear hx3 hb3)
    | (go_at_call 108;refine (HTA.out _ ((J_ _ _).alloc le_ _).drew).mono ?_;rintro r w3 ⟨B,d,rfl,hx3,hb3⟩;have hn3:=(hb3.block w1.heap.size (by simp)).trans (I_ w1 Yg);obtain ⟨⟨n0,n1,n2,n3⟩,m0,m1,m2,m3⟩:=aK hn3;have H3:=hid (⟨hx3,hb3,hn3⟩:_∧_∧_);clear hx3 hb3 hn3))
   all_goals
    go_wp2_with fail
    go_meet
    first
     | exact ⟨w1.heap.size,B,d,rfl,rfl,rfl,H_ _,vY H3.out.2.2 _ _ _ _,(H3.out.1.keep (bS w3 w1.heap.size _ _ _ _) (fun k hk=>by simp at hk ⊢;omega)).more (fun k hk=>.inl (by simp;omega)),
       aH ((((J_ w1.heap.size w1).alloc le_ _).drew).trans (H3.out.2.1.mono (by simp))) le_ _ _ _ _⟩
     | exact ⟨w3.heap.size,B,d,rfl,rfl,rfl,H3.out.2.size,I_ _ _,(H3.out.1.more (fun k hk=>hk.elim .inl (fun e=>.inr (by omega)))).below ((J_ _ _).alloc le_ _),((J_ w1.heap.size w1).drew.trans H3.out.2).alloc H3.out.2.size _⟩
  case rest=>
   obtain ⟨k2,B,d,rfl,rfl,rfl,hk2,hq,hx,hbw⟩:=hcut
   have hr:=(hbw.block g hg1).trans H1.out.rd
   have hz:=(hbw.block K hk1).trans HB1.out.2
   have H4:=hl_ hx hbw hr hz
   have hlq:=aC hq
   clear z0 z1 z2 z3 f0 f1 f2 f3 c0 c1 c2 c3 e0 e1 e2 e3
   obtain ⟨⟨q0,q1,q2,q3⟩,_⟩:=aK hq
   obtain ⟨⟨z0,z1,z2,z3⟩,f0,f1,f2,f3⟩:=aK hz
   obtain ⟨⟨c0,c1,c2,c3⟩,e0,e1,e2,e3⟩:=aK hr
   have hne1:k2≠g:=by omega
   have hne2:k2≠K:=by omega
   have hne3:K≠g:=by omega
   clear hx hbw hr hz hq
   go_wp2_with fail
   refine L_ (v:=eJ e B d) (by simp [results,results84,go_sem, *]) rfl ?_
   rw [HX.out]
   exact Vy H4.out.1 H4.out.2.2.1 (HB1.out.1.trans (H4.out.2.1.mono HB1.out.1.size)) HK.out hg hk1 _ _ _ _ _ _
 ·have hbb:(s.bad == 0)=false:=A_ hb
  have h1:=HX.out
  rw [M_ (by simpa using hb)] at h1
  rw [hbb] at HOK
  have HX:=hid h1
  clear h1 hb hbb
  go_enter func84,ntmps84
  go_wp2_with fail
  rw [HW1.out,HK.out]
  refine HOK.out.mono ?_
  rintro e w2 ⟨rfl,rfl⟩
  go_wp2_with fail
  refine L_ (v:=eJ eD none 0) (by simp [results,results84,go_sem, *] <;> exact ⟨rfl,rfl,rfl,rfl⟩) rfl ?_
  rw [HX.out]
  have h4:=bS w1 K (.int .i64 0) (.int .i64 0) (.string ⟨#[]⟩) (.slice none 0 0)
  exact ⟨none,0,rfl,cR.leaf rfl,h4.heap (by simp;omega) H1.out.rd,(Same.of_below HB1.out.1).trans h4 (fun x hx=>by simp at hx;exact .inr (by have:=HK.out;omega))⟩
end
end Go.Proofs.YtgcfjkfipkfijaaGreatDoor
