/- Part 10 of the proof of rtrees_card; no conditions. -/
import Derived.Test.YtgcfjkfipkfijaaGreatDoorTr01
import Derived.Test.YtgcfjkfipkfijaaGreatDoorTr02
import Derived.Test.YtgcfjkfipkfijaaGreatDoorTr04
import Derived.KernelRfl
set_option maxRecDepth 100000
set_option maxHeartbeats 8000000
namespace Go.Proofs.YtgcfjkfipkfijaaGreatDoor
open Go Go.RowKit _root_.Go.Proofs.Tryz
def Hi (op:Int) (t:bQ):Prop:=t.kind=4∧dK (cZ op) t.text=true
def tH (l:List bQ) (first:Int) (un:St→Ex × St):Nat→St→Ex × St
 | 1=>uW l first un
 | 2=>iI l first 15 15 (tI l first (iI l first 4 5 (iI l first 6 8 un)))
 | 3=>tI l first (iI l first 4 5 (iI l first 6 8 un))
 | 4=>iI l first 4 5 (iI l first 6 8 un)
 | 5=>iI l first 6 8 un
 | _=>un
def lo:Nat→Int
 | 1=>16
 | 2=>15
 | 3=>9
 | 4=>4
 | _=>6
def hi:Nat→Int
 | 1=>16
 | 2=>15
 | 3=>14
 | 4=>5
 | _=>8
theorem Kz {l first un n} (h:n=1∨n=2∨n=4∨n=5):tH l first un n=iI l first (lo n) (hi n) (tH l first un (n+1)):=by
 rcases h with rfl | rfl | rfl | rfl <;> rfl
theorem La {l first un}:tH l first un 3=tI l first (tH l first un 4):=rfl
theorem Vz (op:Int) (n:Nat) (h4:4≤op) (h16:op≤16) (hl:cJ op=n):lo n≤op∧op≤hi n∧1≤n∧n≤5:=by
 have hop:op=4∨op=5∨op=6∨op=7∨op=8∨op=9∨op=10∨op=11∨op=12∨op=13∨op=14∨op=15∨op=16:=by omega
 rcases hop with rfl | rfl | rfl | rfl | rfl | rfl | rfl | rfl | rfl | rfl | rfl | rfl | rfl
 all_goals
  obtain rfl:n=_:=Int.ofNat_inj.1 (hl.symm.trans (by rfl))
  decide
theorem vG (op n) (h1:1≤n) (h5:n≤5) (hl:lo n≤op) (hh:op≤hi n):4≤op∧op≤16∧cJ op=n:=by
 have hn:n=1∨n=2∨n=3∨n=4∨n=5:=by omega
 rcases hn with rfl | rfl | rfl | rfl | rfl
 all_goals
  simp only [lo,hi] at hl hh
  unfold cJ
  refine ⟨by omega,by omega,?_⟩
  (repeat (first | rw [M_ (by omega)] | rw [K_ (by omega)]))
  try rfl
theorem Rp (a b) (ha:4≤a) (ha':a≤16) (hb:4≤b) (hb':b≤16) (h:cZ a=cZ b):a=b:=by
 have h0:((List.range 13).all fun i=>(List.range 13).all fun k=>!dK (cZ (4+(i:Int))) (cZ (4+(k:Int))) || i == k)=true:=by kernel_rfl
 have h1:=List.all_eq_true.1 (List.all_eq_true.1 h0 (a - 4).toNat (List.mem_range.2 (by omega))) (b - 4).toNat (List.mem_range.2 (by omega))
 rw [show 4+((a - 4).toNat:Int)=a by omega,show 4+((b - 4).toNat:Int)=b by omega,bF.2 h] at h1
 simp at h1
 omega
theorem Lb {a b t} (ha:4≤a) (ha':a≤16) (hb:4≤b) (hb':b≤16) (h:Hi a t) (k:Hi b t):a=b:=
 Rp a b ha ha' hb hb' ((bF.1 h.2).trans (bF.1 k.2).symm)
theorem rZ {t bad}:∀(n:Nat) (a:Int),(∀op,a≤op→op<a+n→¬Hi op t)→Hh t bad n a=none
 | 0,_,_=>rfl
 | n+1,a,h=>by
  rw [Hh]
  split
  ·rename_i hk
   rw [K_ (fun hs=>h a (m_ _) (by omega) ⟨hk.1,hs⟩)]
   exact rZ n (a+1) (fun op h1 h2=>h op (by omega) (by omega))
  ·rfl
theorem wG {t op} (hs:Hi op t):∀(n:Nat) (a:Int),a≤op→op<a+n→(∀o,a≤o→o<op→¬Hi o t)→Hh t 0 n a=some op
 | 0,_,h1,h2,_=>by omega
 | n+1,a,h1,h2,h=>by
  rw [Hh,M_ ⟨hs.1,rfl⟩]
  by_cases e:a=op
  ·subst e;rw [M_ hs.2]
  ·rw [K_ (fun hq=>h a (m_ _) (by omega) ⟨hs.1,hq⟩)]
   exact wG hs n (a+1) (by omega) (by omega) (fun o h1 h2=>h o (by omega) h2)
theorem Rq {l i op n} (h1:1≤n) (h5:n≤5) (ho:lo n≤op) (ho':op≤hi n) (h:Hi op (aE l i)):iR l (lo n) (hi n) ⟨i,0⟩=some op:=by
 unfold iR
 have hb:=vG op n h1 h5 ho ho'
 refine wG h _ _ ho (by omega) (fun o h2 h3 hs=>?_)
 have hb':=vG o n h1 h5 h2 (by omega)
 have:=Lb hb'.1 hb'.2.1 hb.1 hb.2.1 hs h
 omega
theorem Lc {l a b s} (h:s.bad≠0):iR l a b s=none:=by
 unfold iR
 generalize (b - a+1).toNat=n
 cases n with
 | zero=>rfl
 | succ n=>rw [Hh,K_ (fun h'=>h h'.2)]
theorem jA {first s} (h:s.at_ - first<64):aT first s=(true,⟨s.at_+1,s.bad⟩):=by
 unfold aT;rw [K_ (by omega)]
theorem oX {first s} (h:64≤s.at_ - first):aT first s=(false,dL 2 s):=by
 unfold aT;rw [M_ h]
theorem zM {l first a b below k e s} (h:iR l a b s=none):nL l first a b below k e s=(e,s):=by
 cases k with
 | zero=>rfl
 | succ k=>rw [nL,h]
theorem Nj {l first a b op below k e s} (h:iR l a b s=some op) (hp:s.at_ - first<64) :
  nL l first a b below (k+1) e s=nL l first a b below k (eY op e (below ⟨s.at_+1,s.bad⟩).1) (below ⟨s.at_+1,s.bad⟩).2:=by
 rw [nL,h]
 simp only
 rw [jA hp,K_ (by simp)]
theorem Nk {l first a b op below k e s} (h:iR l a b s=some op) (hp:64≤s.at_ - first) :
  nL l first a b below (k+1) e s=(e,dL 2 s):=by
 rw [nL,h]
 simp only
 rw [oX hp,M_ rfl]
theorem Br {l a b s} (h:(aE l s.at_).kind≠4):iR l a b s=none:=by
 unfold iR
 exact rZ _ _ (fun _ _ _ hs=>h hs.1)
theorem Rr {l i op} (ho:op=2∨op=3) (h:Hi op (aE l i)):iR l 2 3 ⟨i,0⟩=some op:=by
 unfold iR
 refine wG h _ _ (by omega) (by omega) (fun o h2 h3 hs=>?_)
 obtain ⟨rfl,rfl⟩:o=2∧op=3:=by omega
 have:=(bF.1 hs.2).trans (bF.1 h.2).symm
 exact absurd (bF.2 this) (by decide)
theorem Rs {l i b} (h:iJ (aE l i)=true):iR l 2 3 ⟨i,b⟩=none:=by
 unfold iR
 unfold iJ at h
 rw [a_] at h
 refine rZ _ _ (fun op h2 h3 hs=>?_)
 have h1:=(bF.1 hs.2).trans (bF.1 h.2)
 have:op=2∨op=3:=by
  have:((3 - 2+1:Int).toNat:Int)=2:=by decide
  omega
 rcases this with rfl | rfl <;> exact absurd (bF.2 h1) (by decide)
theorem Wa {l first i un orr} (hk:(aE l i).kind=2) (hb:i - first<64):vU l first un orr ⟨i,0⟩=(.mk 0 (aE l i).n ⟨#[]⟩ [],⟨i+1,0⟩):=by
 unfold vU
 rw [Br (by show (aE l i).kind≠4;omega)]
 simp only
 rw [K_ (by simp [hk]),jA hb,K_ (by simp),M_ hk]
theorem Rt {l first i un orr} (hk:(aE l i).kind=1) (hb:i - first<64):vU l first un orr ⟨i,0⟩=(.mk 1 0 (aE l i).text [],⟨i+1,0⟩):=by
 unfold vU
 rw [Br (by show (aE l i).kind≠4;omega)]
 simp only
 rw [K_ (by simp [hk]),jA hb,K_ (by simp),K_ (by omega),M_ hk]
theorem Ru {l first i op un orr} (ho:op=2∨op=3) (h:Hi op (aE l i)) (hb:i - first<64):vU l first un orr ⟨i,0⟩=(fR op (un ⟨i+1,0⟩).1,(un ⟨i+1,0⟩).2):=by
 unfold vU
 rw [Rr ho h]
 simp only
 rw [jA hb,K_ (by simp)]
theorem Nl {t} (h:iJ t=true):t.kind=4:=by
 unfold iJ at h
 rw [a_,beq_iff_eq] at h
 exact h.1
theorem Rv {l first i un orr} (h:iJ (aE l i)=true) (hb:i - first<64):vU l first un orr ⟨i,0⟩ =
  (if (orr ⟨i+1,0⟩).2.bad=0∧qR (aE l (orr ⟨i+1,0⟩).2.at_)=false then (eD,dL 11 (orr ⟨i+1,0⟩).2)
    else if (orr ⟨i+1,0⟩).2.bad=0 then ((orr ⟨i+1,0⟩).1,(aT first (orr ⟨i+1,0⟩).2).2) else orr ⟨i+1,0⟩):=by
 have hk:=Nl h
 unfold vU
 rw [Rs h]
 simp only
 rw [K_ (by simp [h]),jA hb,K_ (by simp),K_ (by omega),K_ (by omega)]
end Go.Proofs.YtgcfjkfipkfijaaGreatDoor
namespace Go.Proofs.YtgcfjkfipkfijaaGreatDoor
open Go Go.RowKit _root_.Go.Proofs.Tryz
theorem Dy {l first a b below k e s} (h:s.bad≠0):nL l first a b below k e s=(e,s):=zM (Lc h)
theorem Rw {t bad op}:∀(n:Nat) (a:Int),Hh t bad n a=some op→a≤op∧op<a+n∧Hi op t
 | 0,_,h=>by simp [Hh] at h
 | n+1,a,h=>by
  rw [Hh] at h
  by_cases hk:t.kind=4∧bad=0
  ·rw [M_ hk] at h
   by_cases hs:dK (cZ a) t.text=true
   ·rw [M_ hs] at h
    obtain rfl:=e_ h
    exact ⟨by omega,by omega,hk.1,hs⟩
   ·rw [K_ hs] at h
    have:=Rw n (a+1) h
    exact ⟨by omega,by omega,this.2.2⟩
  ·rw [K_ hk] at h;cases h
theorem Rx {l a b op s} (h:iR l a b s=some op) (hab:a≤b):a≤op∧op≤b∧Hi op (aE l s.at_):=by
 have:=Rw _ _ h
 exact ⟨this.1,by omega,this.2.2⟩
theorem Hw {s:St} (h:s.bad=0):s=⟨s.at_,0⟩:=by cases s;simp at h;rw [h]
end Go.Proofs.YtgcfjkfipkfijaaGreatDoor
namespace Go.Proofs.YtgcfjkfipkfijaaGreatDoor
open Go Go.RowKit _root_.Go.Proofs.Tryz
inductive uY:Ex→Prop where
 | num {n:Int} (h:0≤n):uY (.mk 0 n ⟨#[]⟩ [])
 | name {s:ByteArray} (h:gI s=true):uY (.mk 1 0 s [])
 | un {op:Int} {a:Ex} (ho:op=2∨op=3) (h:uY a):uY (fR op a)
 | bin {op:Int} {a b:Ex} (h4:4≤op) (h16:op≤16) (ha:uY a) (hb:uY b):uY (eY op a b)
def wr (b:Bool):Nat:=if b then 2 else 0
def oY:Ex→Nat
 | .mk _ _ _ []=>1
 | .mk op _ _ [a]=>1+(oY a+wr (aG op a.op 0))
 | .mk op _ _ (a::b::_)=>1+(oY a+wr (aG op a.op 0))+(oY b+wr (aG op b.op 1))
theorem vH (e):1≤oY e:=by
 obtain ⟨o,n,s,ks⟩:=e
 match ks with
 | []=>exact H_ _
 | [a]=>rw [oY];omega
 | a::b::r=>rw [oY];omega
theorem Bt (op a):oY (fR op a)=1+(oY a+wr (aG op a.op 0)):=by unfold fR;rw [oY]
theorem Bu (op a b):oY (eY op a b)=1+(oY a+wr (aG op a.op 0))+(oY b+wr (aG op b.op 1)):=by unfold eY;rw [oY]
theorem Ld {op a most} (ho:op=2∨op=3) (hm:1≤most):bM (fR op a) most=cD op [a] 0 1 most:=by
 have hp:aX op=1:=M_ ho
 unfold fR
 rw [bM,K_ (by omega),K_ (by
  rintro (h | h | h | h | h | h)
  ·omega
  ·omega
  ·exact h rfl
  ·exact h rfl
  ·exact h (by rw [hp];rfl)
  ·omega)]
theorem Dz {op a b most} (h4:4≤op) (h16:op≤16) (hm:1≤most):bM (eY op a b) most=cD op [a,b] 0 1 most:=by
 have hp:aX op=2:=K_ (by omega)
 unfold eY
 rw [bM,K_ (by omega),K_ (by
  rintro (h | h | h | h | h | h)
  ·omega
  ·omega
  ·exact h rfl
  ·exact h rfl
  ·exact h (by rw [hp];rfl)
  ·omega)]
theorem Bv (b):((wr b:Nat):Int)=if b=true then 2 else 0:=by cases b <;> rfl
theorem qU {op i n most a ks} (h:bM a (most - n)=oY a) (hm:n+oY a+wr (aG op a.op i)≤most):cD op (a::ks) i n most=cD op ks (i+1) (n+oY a+wr (aG op a.op i)) most:=by
 rw [Bv] at hm ⊢
 simp only [cD]
 rw [h,K_ (by omega),K_ (by omega)]
theorem sA {e} (h:uY e):∀most:Int,(oY e:Int)≤most→bM e most=oY e:=by
 induction h with
 | num h=>
  intro most _
  rw [bM,M_ (.inl rfl),K_ (by
   rintro (h' | ⟨_,h' | h'⟩ | ⟨h',_⟩)
   ·simp at h'
   ·omega
   ·exact h' rfl
   ·omega),oY]
  rfl
 | name h=>
  intro most _
  rw [bM,M_ (.inr rfl),K_ (by
   rintro (h' | ⟨h',_⟩ | ⟨_,h' | h'⟩)
   ·simp at h'
   ·omega
   ·exact h' rfl
   ·rw [h] at h';cases h'),oY]
  rfl
 | @un op a ho _ ih=>
  intro most hm
  rw [Bt] at hm ⊢
  have hp:=vH a
  push_cast at hm
  rw [Ld ho (by omega),qU (ih _ (by omega)) (by omega),cD]
  push_cast
  omega
 | @bin op a b h4 h16 _ _ iha ihb=>
  intro most hm
  rw [Bu] at hm ⊢
  have hp:=vH a
  have hq:=vH b
  push_cast at hm
  rw [Dz h4 h16 (by omega),qU (iha _ (by omega)) (by omega),qU (ihb _ (by omega)) (by show _≤most;rw [show (0:Int)+1=1 by rfl];omega),cD,show (0:Int)+1=1 by rfl]
  push_cast
  omega
theorem zN {s:ByteArray} (h:s.size=0):s=⟨#[]⟩:=by
 apply ByteArray.ext
 exact Array.eq_empty_of_size_eq_zero h
theorem qV {op i n most a ks} (h:0≤cD op (a::ks) i n most):0≤bM a (most - n)∧0≤cD op ks (i+1) (n+bM a (most - n)+(if aG op a.op i then 2 else 0)) most:=by
 simp only [cD] at h
 generalize (if aG op a.op i=true then (2:Int) else 0)=z at h ⊢
 split at h
 ·omega
 ·split at h
  ·omega
  ·exact ⟨by omega,h⟩
theorem Nm (N):∀e:Ex,SizeOf.sizeOf e<N→∀most,0≤bM e most→uY e:=by
 induction N with
 | zero=>intro e h;omega
 | succ N ih=>
  intro e hs most h
  obtain ⟨o,n,s,ks⟩:=e
  by_cases h0:o=0∨o=1
  ·by_cases h1:0<ks.length∨o=0∧(n<0∨s.size≠0)∨o=1∧(n≠0∨gI s=false)
   ·rw [bM,M_ h0,M_ h1] at h
    omega
   ·obtain rfl:ks=[]:=X_ (by omega)
    rcases h0 with rfl | rfl
    ·obtain rfl:s=⟨#[]⟩:=zN (by omega)
     exact .num (by omega)
    ·obtain rfl:n=0:=by omega
     refine .name ?_
     cases hb:gI s with
     | true=>rfl
     | false=>exact absurd (.inr (.inr ⟨rfl,.inr hb⟩)) h1
  ·by_cases h1:o<0∨16<o∨n≠0∨s.size≠0∨ks.length≠aX o∨most<1
   ·rw [bM,K_ h0,M_ h1] at h
    omega
   ·rw [bM,K_ h0,K_ h1] at h
    obtain rfl:n=0:=by omega
    obtain rfl:s=⟨#[]⟩:=zN (by omega)
    have hl:ks.length=aX o:=by omega
    by_cases ho:o=2∨o=3
    ·rw [show aX o=1 from M_ ho] at hl
     obtain ⟨a,rfl⟩:=List.length_eq_one_iff.1 hl
     simp at hs
     exact .un ho (ih a (by omega) _ (qV h).1)
    ·rw [show aX o=2 from K_ ho] at hl
     match ks,hl with
     | [a,b],_=>
      simp at hs
      have hb:=qV h
      exact .bin (by omega) (by omega) (ih a (by omega) _ hb.1) (ih b (by omega) _ (qV hb.2).1)
theorem Wb (e):oN e=true↔uY e∧oY e≤64:=by
 constructor
 ·intro h
  unfold oN at h
  rw [a_,decide_eq_true_eq,decide_eq_true_eq] at h
  have hw:=Nm (SizeOf.sizeOf e+1) e (by omega) 64 (by omega)
  refine ⟨hw,?_⟩
  by_cases hc:oY e≤64
  ·exact hc
  ·exfalso
   have key:∀{e:Ex},uY e→∀most:Int,most<oY e→bM e most<0∨(oY e=1∧bM e most=1):=by
    intro e he
    induction he with
    | num h0=>
     intro most _
     right
     refine ⟨by rw [oY],?_⟩
     rw [bM,M_ (.inl rfl),K_ (by
      rintro (h' | ⟨_,h' | h'⟩ | ⟨h',_⟩)
      ·simp at h'
      ·omega
      ·exact h' rfl
      ·omega)]
    | name h0=>
     intro most _
     right
     refine ⟨by rw [oY],?_⟩
     rw [bM,M_ (.inr rfl),K_ (by
      rintro (h' | ⟨h',_⟩ | ⟨_,h' | h'⟩)
      ·simp at h'
      ·omega
      ·exact h' rfl
      ·rw [h0] at h';cases h')]
    | @un op a ho ha ih=>
     intro most hm
     left
     rw [Bt] at hm
     push_cast at hm
     by_cases h1:1≤most
     ·rw [Ld ho h1]
      simp only [cD]
      rw [←Bv]
      by_cases hc2:(oY a:Int)≤most - 1
      ·rw [sA ha _ hc2,K_ (by omega),M_ (by omega)]
       decide
      ·rcases ih (most - 1) (by omega) with h2 | ⟨h2,h3⟩
       ·rw [M_ h2];decide
       ·rw [h3,K_ (by decide),M_ (by omega)];decide
     ·have hp:aX op=1:=M_ ho
      unfold fR
      rw [bM,K_ (by omega),M_ (by omega)]
      decide
    | @bin op a b h4 h16 ha hb iha ihb=>
     intro most hm
     left
     rw [Bu] at hm
     push_cast at hm
     by_cases h1:1≤most
     ·rw [Dz h4 h16 h1]
      simp only [cD]
      rw [←Bv,←Bv,show (0:Int)+1=1 by rfl]
      by_cases hc2:(oY a:Int)≤most - 1
      ·rw [sA ha _ hc2,K_ (by omega)]
       by_cases hc3:most<1+(oY a:Int)+(wr (aG op a.op 0):Nat)
       ·rw [M_ hc3];decide
       ·rw [K_ hc3]
        by_cases hc4:(oY b:Int)≤most - (1+(oY a:Int)+(wr (aG op a.op 0):Nat))
        ·rw [sA hb _ hc4,K_ (by omega),M_ (by omega)]
         decide
        ·rcases ihb (most - (1+(oY a:Int)+(wr (aG op a.op 0):Nat))) (by omega) with h2 | ⟨h2,h3⟩
         ·rw [M_ h2];decide
         ·rw [h3,K_ (by decide),M_ (by omega)];decide
      ·rcases iha (most - 1) (by omega) with h2 | ⟨h2,h3⟩
       ·rw [M_ h2];decide
       ·rw [h3,K_ (by decide),M_ (by omega)];decide
     ·have hp:aX op=2:=K_ (by omega)
      unfold eY
      rw [bM,K_ (by omega),M_ (by omega)]
      decide
   rcases key hw 64 (by omega) with h2 | ⟨h2,_⟩ <;> omega
 ·rintro ⟨hw,hc⟩
  unfold oN
  have hp:=vH e
  rw [sA hw 64 (by omega),a_,decide_eq_true_eq,decide_eq_true_eq]
  omega
end Go.Proofs.YtgcfjkfipkfijaaGreatDoor
namespace Go.Proofs.YtgcfjkfipkfijaaGreatDoor
open Go Go.RowKit Go.Lib _root_.Go.Proofs.Tryz
theorem Nn (op i n most):cD op [] i n most=n:=rfl
theorem nS {op i n most k ks}:cD op (k::ks) i n most =
  if bM k (most - n)<0 then -1
  else if most<n+bM k (most - n)+(if aG op k.op i then 2 else 0) then -1
  else cD op ks (i+1) (n+bM k (most - n)+(if aG op k.op i then 2 else 0)) most:=by rw [cD]
theorem dX {α:Type} (l:List α) (j:Nat) (h:j<l.length):l.drop j=l[j]::l.drop (j+1):=by simp
theorem Ea (N) (ih:∀(e:Ex) (A:Option Addr) (c:Nat) (most:Int) (w:World),SizeOf.sizeOf e<N→gU.Row [] w A e.kids→e.kids.length≤c→dU e→cF w→0≤most→most≤1000 →
    Calls prog 158 #[eJ e A c,.int .i64 most] w fun r w'=>r=.returned (.int .i64 (bM e most))∧Below w.heap.size w w') (o n nm ks A c most w) (hN:SizeOf.sizeOf (Ex.mk o n nm ks)≤N) (hr:gU.Row [] w A ks) (hlc:ks.length≤c) (hk:dU (.mk o n nm ks)) (hT:cF w) (h0:0≤most) (hm:most≤1000) (hop:¬(o=0∨o=1)) (hgood:¬(o<0∨16<o∨n≠0∨nm.size≠0∨ks.length≠aX o∨most<1)) :
  Calls prog 158 #[.agg #[.int .i64 o,.int .i64 n,.string nm,.slice A ks.length c],.int .i64 most] w fun r w'=>r=.returned (.int .i64 (cD o ks 0 1 most))∧Below w.heap.size w w':=by
 have hok:∀(j:Nat) (hj:j<ks.length),dU ks[j]:=fun j hj=>hk.kid j hj
 have hsz:∀(j:Nat) (hj:j<ks.length),SizeOf.sizeOf ks[j]<N:=fun j hj=>Y_ (Hl (e:=.mk o n nm ks) j hj) hN
 obtain ⟨P,hP⟩:∃P:Int,(aX o:Int)=P:=⟨_,rfl⟩
 have hlen:(ks.length:Int)=P:=by rw [←hP];omega
 have hp1:1≤ks.length:=by
  have:aX o=1∨aX o=2:=by unfold aX;split <;> simp
  omega
 have b0:(o == 0)=false:=aW (fun e=>hop (.inl e))
 have b1:(o == 1)=false:=aW (fun e=>hop (.inr e))
 have hc:((o == 2)=true∧P=1)∨((o == 2)=false∧(o == 3)=true∧P=1)∨((o == 2)=false∧(o == 3)=false∧P=2):=by
  unfold aX at hP
  by_cases h2:o=2
  ·exact .inl ⟨D_ h2,by rw [M_ (.inl h2)] at hP;omega⟩
  ·by_cases h3:o=3
   ·exact .inr (.inl ⟨aW h2,D_ h3,by rw [M_ (.inr h3)] at hP;omega⟩)
   ·exact .inr (.inr ⟨aW h2,aW h3,by rw [K_ (by omega)] at hP;omega⟩)
 have g1:0≤o:=by omega
 have g2:o≤16:=by omega
 obtain rfl:n=0:=by omega
 have g4:nm.toList.isEmpty=true:=hH (by omega)
 have g5:((ks.length:Int) != P)=false:=tK hlen
 have g6:1≤most:=by omega
 have HOK:=hid hok
 have HSZ:=hid hsz
 have HIH:=hid ih
 have HT:=hid hT
 obtain ⟨ad,rfl⟩:∃ad,A=some ad:=by
  obtain ⟨ad,e,_⟩:=hr.2 hp1
  exact ⟨ad,e⟩
 have HW:Hid (∀(W:World) (i:Nat),gU.Row [] W (some ad) ks→(h:i<ks.length)→Calls prog 168 #[.agg #[.int .i64 o,.int .i64 0,.string nm,.slice (some ad) ks.length c],.int .i64 i] W fun r w'=>r=.returned (.bool (aG o ks[i].op i))∧Below W.heap.size W w'):=
  fun W i hr h=>uJ (.mk o 0 nm ks) (some ad) c i W hr h hlc
 have HROW:=hid hr
 obtain ⟨ANS,hANS⟩:=nm_ (cD o ks 0 1 most)
 rw [hANS]
 have HANS:=hid hANS
 have hlcz:(ks.length:Int)≤c:=by omega
 have hlen2:(ks.length:Int)≤2:=by omega
 clear hok hsz ih hT hP hlen hr hANS hN hk hgood hop h0
 rcases hc with ⟨b2,rfl⟩ | ⟨b2,b3,rfl⟩ | ⟨b2,b3,rfl⟩
 all_goals
  go_enter func158,ntmps158
  go_wp2_with fail
  go_loopg [6,7,8,9,85] (ks.length+1) (fun k s6 _ _ _ s85 w'=>∃(j:Nat) (n':Int),s85=.int .i64 j∧j≤ks.length∧ks.length - j<k∧s6=.int .i64 n'∧1≤n'∧n'≤most ∧
   w'.heap[w.heap.size]? = some (.cells #[.int .i64 o,.int .i64 0,.string nm,.slice (some ad) ks.length c] 41 (0,0))∧Below w.heap.size w w'∧cD o (ks.drop j) j n' most=ANS)
  case atStart=>exact ⟨0,1,rfl,by omega,by omega,rfl,by omega,by omega,I_ _ _,(J_ _ _).alloc le_ _,HANS.out⟩
  case round=>
   obtain ⟨j,n',rfl,hj,hjk,rfl,hn1,hn2,hbx,hbl,hans⟩:=hrel
   obtain ⟨gk,rfl⟩:=pk_ gk 1 (by omega)
   have HBX:=hid hbx
   have HBL:=hid hbl
   have HA:=hid hans
   clear hans
   by_cases hlt:j<ks.length
   ·have hltz:(j:Int)<ks.length:=by omega
    have hrow:gU.Row [] wr (some ad) ks:=HROW.out.keep (Same.of_below hbl)
    obtain ⟨A',c',x0,x1,x2,x3,hlc',hrow',_⟩:=rT hrow j hlt
    have HROWR:=hid hrow
    have HROWK:=hid hrow'
    obtain ⟨t,ht⟩:=nm_ (bM ks[j] (most - n'))
    have ht1:=Vm ks[j] (most - n')
    have ht2:=Vn ks[j] (most - n')
    have HKID:Hid (∀W,gU.Row [] W A' ks[j].kids→cF W→Calls prog 158 #[.agg #[.int .i64 ks[j].op,.int .i64 ks[j].n,.string ks[j].name,.slice A' ks[j].kids.length c'],.int .i64 (most - n')] W fun r w'=>r=.returned (.int .i64 t)∧Below W.heap.size W w'):=fun W hW hTW=>by
     rw [←ht];exact HIH.out ks[j] A' c' (most - n') W (HSZ.out j hlt) hW hlc' (HOK.out j hlt) hTW (by omega) (by omega)
    obtain ⟨b,hb⟩:=nm_ (aG o ks[j].op j)
    have HWR:=hid (fun W h=>HW.out W j h hlt)
    have h:=HA.out
    rw [dX ks j hlt,nS,ht] at h
    rw [ht] at ht1 ht2
    rw [hb] at h HWR
    have HE:=hid h
    have hadlt:=N_ wr _ x0
    have hkl:=aC hbx
    clear h ht hb hrow hrow' hbx hbl
    by_cases htn:t<0
    ·go_wp2_with (go_at_call 158;refine (HKID.out _ (HROWK.out.keep ((Same.refl [] wr).alloc _)) ((HT.out.below HBL.out).alloc _)).mono ?_;rintro e w2 ⟨rfl,hb2⟩)
     go_ret
     refine ⟨bU ?_,(HBL.out.alloc HBL.out.size _).trans (hb2.mono (by simp;omega))⟩
     have h:=HE.out
     rw [M_ htn] at h
     exact h
    ·have htn':0≤t:=by omega
     go_wp2_with fail
     refine (HKID.out _ (HROWK.out.keep ((Same.refl [] wr).alloc _)) ((HT.out.below HBL.out).alloc _)).mono ?_
     rintro e w2 ⟨rfl,hb2⟩
     have hbx2:=(hb2.block _ (by simp;omega)).trans ((((J_ wr.heap.size wr).alloc le_ _).block _ hkl).trans HBX.out)
     have hbl2:=(HBL.out.alloc HBL.out.size _).trans (hb2.mono (by simp;omega))
     have HROW2:=hid ((HROWR.out.keep ((Same.refl [] wr).alloc _)).keep (Same.of_below hb2))
     have HBX2:=hid hbx2
     have HBL2:=hid hbl2
     have q0:=(aB hbx2 0).trans rfl
     have q1:=(aB hbx2 1).trans rfl
     have q2:=(aB hbx2 2).trans rfl
     have q3:=(aB hbx2 3).trans rfl
     clear hb2 hbx2 hbl2
     go_wp2_with fail
     refine (HWR.out _ HROW2.out).mono ?_
     rintro e w3 ⟨rfl,hb3⟩
     have HBX3:=bl_ hb3 HBX2
     have HBL3:=tm_ HBL2 hb3
     have h:=HE.out
     rw [K_ (by omega)] at h
     have HE2:=hid h
     clear h q0 q1 q2 q3 hb3 HE
     cases b
     ·have h:=HE2.out
      simp only [Bool.false_eq_true,if_false,Int.add_zero] at h
      have HE3:=hid h
      clear h
      by_cases hgt:most<n' + t
      ·go_wp2_with fail
       go_ret
       refine ⟨bU ?_,HBL3.out⟩
       have h:=HE3.out
       rw [M_ hgt] at h
       exact h
      ·have hgt':n' + t≤most:=by omega
       have h:=HE3.out
       rw [K_ hgt] at h
       have HE4:=hid h
       clear h hgt
       go_wp2_with fail
       go_roundg gk
       case measure=>omega
       case rel=>exact ⟨j+1,n' + t,by go_num,by omega,by omega,rfl,by omega,by omega,HBX3.out,HBL3.out,HE4.out⟩
     ·have h:=HE2.out
      simp only [if_true] at h
      have HE3:=hid h
      clear h
      by_cases hgt:most<n' + t+2
      ·go_wp2_with fail
       go_ret
       refine ⟨bU ?_,HBL3.out⟩
       have h:=HE3.out
       rw [M_ hgt] at h
       exact h
      ·have hgt':n' + t+2≤most:=by omega
       have h:=HE3.out
       rw [K_ hgt] at h
       have HE4:=hid h
       clear h hgt
       go_wp2_with fail
       go_roundg gk
       case measure=>omega
       case rel=>exact ⟨j+1,n' + t+2,by go_num,by omega,by omega,rfl,by omega,by omega,HBX3.out,HBL3.out,HE4.out⟩
   ·have hge:(ks.length:Int)≤j:=by omega
    clear hbx hbl
    go_wp2_with fail
    go_ret
    refine ⟨bU ?_,HBL.out⟩
    have h:=HA.out
    rw [List.drop_of_length_le (by omega),Nn] at h
    exact h
theorem Hx (N):∀(e:Ex) (A:Option Addr) (c:Nat) (most:Int) (w:World),SizeOf.sizeOf e<N→gU.Row [] w A e.kids→e.kids.length≤c→dU e→cF w→0≤most→most≤1000 →
   Calls prog 158 #[eJ e A c,.int .i64 most] w fun r w'=>r=.returned (.int .i64 (bM e most))∧Below w.heap.size w w':=by
 induction N with
 | zero=>intro e A c most w h;omega
 | succ N ih=>
  intro e A c most w hN hr hlc hk hT h0 hm
  by_cases hop:e.op=0∨e.op=1
  ·exact Dl e A c most w hop hk hT
  ·by_cases hb:e.op<0∨16<e.op∨e.n≠0∨e.name.size≠0∨e.kids.length≠aX e.op∨most<1
   ·rw [Rb hop hb]
    exact Hq e.op e.n e.name e.kids A c most w hop hb
   ·rw [Mv hop hb]
    obtain ⟨o,n,nm,ks⟩:=e
    exact Ea N ih o n nm ks A c most w (by omega) hr hlc hk hT h0 hm hop hb
theorem Wc (e A c w) (hr:gU.Row [] w A e.kids) (hlc:e.kids.length≤c) (hk:dU e) (hT:cF w) :
  Calls prog 140 #[eJ e A c] w fun r w'=>r=.returned (.bool (oN e))∧Below w.heap.size w w':=by
 have HC:=hid (fun W (h:gU.Row [] W A e.kids) (hT:cF W)=>Hx (SizeOf.sizeOf e+1) e A c 64 W (by omega) h hlc hk hT (by omega) (by omega))
 have HX:Hid (oN e=(decide (0<bM e 64) && decide (bM e 64≤64))):=rfl
 obtain ⟨t,ht⟩:=nm_ (bM e 64)
 rw [ht] at HC HX
 clear ht
 have HR:=hid (hr.keep ((Same.refl [] w).alloc (.cells #[.int .i64 e.op,.int .i64 e.n,.string e.name,.slice A e.kids.length c] 41)))
 have HT:=hid hT
 clear hr hT
 go_enter func140,ntmps140
 go_wp2_with (go_at_call 158;refine (HC.out _ HR.out (HT.out.alloc _)).mono ?_;rintro r w2 ⟨rfl,hb2⟩)
 all_goals
  go_ret
  refine ⟨cO ?_,((J_ _ _).alloc le_ _).trans (hb2.mono (by simp))⟩
  rw [HX.out]
  first
  | (simp [*];done)
  | (simp [*];omega)
end Go.Proofs.YtgcfjkfipkfijaaGreatDoor
