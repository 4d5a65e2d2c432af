/- Part 11 of the proof of rtrees_card; no conditions. -/
import Derived.Test.YtgcfjkfipkfijaaGreatDoorTr01
import Derived.Test.YtgcfjkfipkfijaaGreatDoorTr02
import Derived.Test.YtgcfjkfipkfijaaGreatDoorTr10
import Derived.Lib.ItoaLen
import Derived.Lib.ItoaNum
namespace Go.Proofs.YtgcfjkfipkfijaaGreatDoor
open Go Go.RowKit Go.Lib _root_.Go.Proofs.Tryz
inductive Eb:Ex→Prop where
 | leaf {op n:Int} {nm:ByteArray} {ks:List Ex} (h:op=0∨op=1) (h2:ks=[]):Eb (.mk op n nm ks)
 | node {op n:Int} {nm:ByteArray} {ks:List Ex} (h1:2≤op) (h2:op≤16) (h3:ks.length=aX op) (h4:∀k,k∈ks→Eb k):Eb (.mk op n nm ks)
theorem Hy (N):(∀e:Ex,SizeOf.sizeOf e<N→∀most,0≤bM e most→Eb e)∧(∀ks:List Ex,SizeOf.sizeOf ks<N→∀op i n most,0≤cD op ks i n most→∀k,k∈ks→Eb k):=by
 induction N with
 | zero=>exact ⟨fun _ h=>absurd h (by omega),fun _ h=>absurd h (by omega)⟩
 | succ N ih=>
  refine ⟨fun e he most h=>?_,fun ks hk op i n most h k hm=>?_⟩
  ·obtain ⟨o,n,nm,ks⟩:=e
   by_cases h0:o=0∨o=1
   ·by_cases h1:0<ks.length∨o=0∧(n<0∨nm.size≠0)∨o=1∧(n≠0∨gI nm=false)
    ·rw [bM,M_ h0,M_ h1] at h
     omega
    ·exact .leaf h0 (X_ (by omega))
   ·by_cases h1:o<0∨16<o∨n≠0∨nm.size≠0∨ks.length≠aX o∨most<1
    ·rw [bM,K_ h0,M_ h1] at h
     omega
    ·rw [bM,K_ h0,K_ h1] at h
     refine .node (by omega) (by omega) (by omega) (ih.2 ks ?_ o 0 1 most h)
     simp at he
     omega
  ·cases ks with
   | nil=>simp at hm
   | cons x xs=>
    simp at hk
    rw [nS] at h
    by_cases h1:bM x (most - n)<0
    ·rw [M_ h1] at h;omega
    ·rw [K_ h1] at h
     generalize (if aG op x.op i=true then (2:Int) else 0)=z at h
     split at h
     ·omega
     ·rcases List.mem_cons.1 hm with rfl | hm
      ·exact ih.1 _ (by omega) (most - n) (by omega)
      ·exact ih.2 xs (by omega) _ _ _ _ h k hm
theorem zO {e} (h:oN e=true):Eb e:=by
 unfold oN at h
 rw [a_,decide_eq_true_eq] at h
 exact (Hy (SizeOf.sizeOf e+1)).1 e (by omega) 64 (by omega)
def oG (b:Bool) (l:List UInt8):List UInt8:=if b then [40]++l++[41] else l
def aP:Ex→List UInt8
 | .mk op n nm ks=>
  if op=0 then Lib.itoa n
  else if op=1 then nm.data.toList
  else match ks with
   | []=>[]
   | [a]=>(cZ op).data.toList++oG (aG op a.op 0) (aP a)
   | a::b::_=>oG (aG op a.op 0) (aP a)++[32]++(cZ op).data.toList++[32]++oG (aG op b.op 1) (aP b)
def kD (e:Ex):List UInt8:=if oN e then aP e else []
def str (l:List UInt8):ByteArray:=⟨l.toArray⟩
theorem dC (a b):str a++str b=str (a++b):=by
 apply ByteArray.ext
 simp [str]
theorem bW (l):(str l).size=l.length:=by
 rw [←aJ]
 simp [str]
theorem dO (s):str s.data.toList=s:=by
 apply ByteArray.ext
 simp [str]
theorem Ec (l):(str l).data.toList=l:=by simp [str]
theorem gC (b l):(oG b l).length=l.length+(if b then 2 else 0):=by
 unfold oG
 split <;> simp_all
theorem Wd {p:Prop} [Decidable p] {a b:List UInt8} {n:Nat} (h1:a.length≤n) (h2:b.length≤n):(if p then a else b).length≤n:=by split <;> assumption
theorem mU (op):(cZ op).data.toList.length≤2:=by
 have h:∀l:List UInt8,(bytes l).data.toList=l:=fun l=>by simp [bytes]
 unfold cZ
 rw [h]
 repeat' (refine Wd ?_ ?_)
 all_goals decide
def mV (op:Int):List Ex→Int→Nat
 | [],_=>0
 | k::ks,i=>(oG (aG op k.op i) (aP k)).length+mV op ks (i+1)
theorem Ry (N):(∀e:Ex,SizeOf.sizeOf e<N→dU e→∀m,0≤bM e m→((aP e).length:Int)≤281474976710656*bM e m) ∧
  (∀ks:List Ex,SizeOf.sizeOf ks<N→(∀k,k∈ks→dU k)→∀op i n m,1≤n→0≤cD op ks i n m→(mV op ks i:Int)≤281474976710656*(cD op ks i n m - n)):=by
 induction N with
 | zero=>exact ⟨fun _ h=>absurd h (by omega),fun _ h=>absurd h (by omega)⟩
 | succ N ih=>
  refine ⟨fun e he hk m h=>?_,fun ks hs hk op i n m hn h=>?_⟩
  ·obtain ⟨o,n,nm,ks⟩:=e
   have hfn:oT n:=hk.n
   have hnm:nm.size≤140737488355328:=hk.name
   simp at he
   by_cases h0:o=0∨o=1
   ·by_cases h1:0<ks.length∨o=0∧(n<0∨nm.size≠0)∨o=1∧(n≠0∨gI nm=false)
    ·rw [bM,M_ h0,M_ h1] at h
     omega
    ·rw [bM,M_ h0,K_ h1,aP.eq_def]
     simp only
     rcases h0 with rfl | rfl
     ·rw [M_ rfl]
      have:=Lib.itoa_length_le n hfn.1 hfn.2
      omega
     ·rw [K_ (by decide),M_ rfl,aJ]
      omega
   ·by_cases h1:o<0∨16<o∨n≠0∨nm.size≠0∨ks.length≠aX o∨m<1
    ·rw [bM,K_ h0,M_ h1] at h
     omega
    ·rw [bM,K_ h0,K_ h1] at h ⊢
     have h2:=ih.2 ks (by omega) hk.kids o 0 1 m (by omega) h
     have hsg:=mU o
     rw [aP.eq_def]
     simp only
     rw [K_ (by omega),K_ (by omega)]
     have hge:=vT ks o 0 1 m (by omega)
     match ks,h2,h1,h with
     | [],_,h1,_=>
      have:aX o=1∨aX o=2:=by unfold aX;split <;> simp
      simp at h1
      omega
     | [a],h2,_,_=>
      simp only [mV] at h2
      simp only [O_]
      omega
     | a::b::r,h2,_,_=>
      simp only [mV] at h2
      simp only [O_,P_,b_]
      have hz:(0:Int)+1=1:=by omega
      rw [hz] at h2
      omega
  ·cases ks with
   | nil=>simp [mV,cD]
   | cons x xs=>
    simp at hs
    rw [nS] at h ⊢
    have hx:0≤(if aG op x.op i=true then (2:Int) else 0):=by split <;> omega
    by_cases h1:bM x (m - n)<0
    ·rw [M_ h1] at h;omega
    ·rw [K_ h1] at h ⊢
     by_cases h3:m<n+bM x (m - n)+(if aG op x.op i=true then 2 else 0)
     ·rw [M_ h3] at h;omega
     ·rw [K_ h3] at h ⊢
      have a1:=ih.1 x (by omega) (hk x (by simp)) (m - n) (by omega)
      have a2:=ih.2 xs (by omega) (fun k hk'=>hk k (by simp [hk'])) op (i+1) _ m (by omega) h
      simp only [mV,gC]
      have hw:((if aG op x.op i=true then 2 else 0:Nat):Int)=(if aG op x.op i=true then 2 else 0):=by split <;> rfl
      push_cast
      rw [hw]
      generalize (if aG op x.op i=true then (2:Int) else 0)=z at *
      omega
theorem sF {e} (hk:dU e) (h:oN e=true):(aP e).length≤18014398509481984:=by
 unfold oN at h
 rw [a_,decide_eq_true_eq,decide_eq_true_eq] at h
 have:=(Ry (SizeOf.sizeOf e+1)).1 e (by omega) hk 64 (by omega)
 omega
end Go.Proofs.YtgcfjkfipkfijaaGreatDoor
namespace Go.Proofs.YtgcfjkfipkfijaaGreatDoor
open Go Go.RowKit Go.Lib _root_.Go.Proofs.Tryz
theorem We (s:ByteArray):s.data.toList.length=s.size:=by simp
def Vd (w:List UInt8):Prop:=∀x,x∈aI w→x≠(65533,1)
theorem Le:∀(rs:List (Nat × Nat)) (k:Int),(∀x,x∈rs→x≠(65533,1))→qQ k rs=-1
 | [],_,_=>rfl
 | r::rs,k,h=>by
  rw [qQ,K_ (h r (by simp))]
  exact Le rs (k+1) (fun x hx=>h x (by simp [hx]))
theorem zP {r} (h:dJ r=3):48≤r∧r≤57:=by
 unfold dJ at h
 by_cases h1:r=32∨r=9∨r=13∨r=10
 ·rw [M_ h1] at h;omega
 ·rw [K_ h1] at h
  by_cases h2:(97≤r∧r≤122)∨(65≤r∧r≤90)∨r=95
  ·rw [M_ h2] at h;omega
  ·rw [K_ h2] at h
   by_cases h3:192≤r∧r≤591∧r≠215∧r≠247
   ·rw [M_ h3] at h;omega
   ·rw [K_ h3] at h
    by_cases h4:48≤r∧r≤57
    ·exact h4
    ·rw [K_ h4] at h
     repeat' split at h
     all_goals omega
theorem yY {l} (h:(decodeL l).1<128):(decodeL l).1=(l.getD 0 0).toNat:=by
 rw [decodeL_N] at h ⊢
 rcases decodeN_shape l.length (l.getD 0 0).toNat (l.getD 1 0).toNat (l.getD 2 0).toNat (l.getD 3 0).toNat with ⟨c,e⟩ | ⟨c1,c2,c3,cv,e⟩ | ⟨c1,c2,c3,c4,cv,cs,e⟩ | ⟨c1,c2,c3,c4,c5,cv,cw,e⟩ | e
 ·rw [e]
 all_goals
  rw [e] at h
  simp only at h
  omega
theorem Rz {s} (h:gI s=true):Vd s.data.toList∧(∀x,x∈aI s.data.toList→Hk x.1=true)∧s.data.toList≠[]∧((s.data.toList.getD 0 0).toNat<48∨57<(s.data.toList.getD 0 0).toNat)∧(aI s.data.toList).length≤12:=by
 unfold gI nK iT at h
 simp only [a_,Bool.or_eq_true,decide_eq_true_eq] at h
 obtain ⟨⟨⟨h1,h2,h3⟩,h4⟩,h5⟩:=h
 rw [rU,List.all_eq_true] at h1
 refine ⟨fun x hx e=>?_,List.all_eq_true.1 h2,fun e=>h3 ?_,h4,h5⟩
 ·have:=h1 x hx
  rw [e] at this
  simp at this
 ·rw [←We,e];rfl
theorem Lf (u) (h:u≤9223372036854775807):(decDigits u).length≤19:=by
 rw [decDigits_length]
 apply Nat.le_of_not_lt
 intro hlt
 have key:∀k v,k<nDigits v→10 ^ k≤v∨k=0:=by
  intro k
  induction k with
  | zero=>intro v _;exact .inr rfl
  | succ k ih=>
   intro v hv
   by_cases h1:v<10
   ·rw [nDigits_small h1] at hv;omega
   ·rw [nDigits_big h1] at hv
    left
    rcases ih (v / 10) (by omega) with h2 | h2
    ·rw [Nat.pow_succ];omega
    ·subst h2;simp;omega
 rcases key 19 u hlt with h2 | h2
 ·have:(10:Nat) ^ 19=10000000000000000000:=by decide
  omega
 ·omega
end Go.Proofs.YtgcfjkfipkfijaaGreatDoor
namespace Go.Proofs.YtgcfjkfipkfijaaGreatDoor
open Go Go.RowKit Go.Lib _root_.Go.Proofs.Tryz
theorem No (op a) (ho:op=2∨op=3):aP (fR op a)=(cZ op).data.toList++oG (aG op a.op 0) (aP a):=by
 unfold fR
 rw [aP.eq_def]
 simp only
 rw [K_ (by omega),K_ (by omega)]
theorem Np (op a b) (h4:4≤op):aP (eY op a b)=oG (aG op a.op 0) (aP a)++[32]++(cZ op).data.toList++[32]++oG (aG op b.op 1) (aP b):=by
 unfold eY
 rw [aP.eq_def]
 simp only
 rw [K_ (by omega),K_ (by omega)]
end Go.Proofs.YtgcfjkfipkfijaaGreatDoor
namespace Go.Proofs.YtgcfjkfipkfijaaGreatDoor
open Go Go.RowKit Go.Lib _root_.Go.Proofs.Tryz
theorem Bw (l):(decodeL l).2≤4:=by
 rw [decodeL_N]
 rcases decodeN_shape l.length (l.getD 0 0).toNat (l.getD 1 0).toNat (l.getD 2 0).toNat (l.getD 3 0).toNat with ⟨c,e⟩ | ⟨c1,c2,c3,cv,e⟩ | ⟨c1,c2,c3,c4,cv,cs,e⟩ | ⟨c1,c2,c3,c4,c5,cv,cw,e⟩ | e
 all_goals
  rw [e]
  simp only
  omega
theorem Hz:∀(n:Nat) (w:List UInt8),w.length≤n→w.length≤4*(aI w).length:=by
 intro n
 induction n with
 | zero=>intro w h;omega
 | succ n ih=>
  intro w h
  by_cases hw:w=[]
  ·subst hw;exact H_ _
  ·have h0:0<w.length:=F_ hw
   have h1:=decodeL_width w
   have h4:=Bw w
   have:=ih (w.drop (decodeL w).2) (by rw [Q_];omega)
   rw [bD w hw,P_]
   rw [Q_] at this
   omega
theorem Sa {s} (h:gI s=true):s.data.toList.length≤48:=by
 have h1:=Hz _ s.data.toList le_
 have h2:=(Rz h).2.2.2.2
 omega
theorem Ia {e} (h:uY e) (hk:dU e):(aP e).length+3≤51*oY e:=by
 induction h with
 | @num n h0=>
  rw [show aP (.mk 0 n ⟨#[]⟩ [])=itoa n by rw [aP.eq_def];exact rfl,show itoa n=decDigits n.toNat by unfold itoa;rw [K_ (by omega)]]
  have h1:n≤9223372036854775807:=hk.n.2
  have:=Lf n.toNat (by omega)
  rw [oY]
  omega
 | @name s h0=>
  rw [show aP (.mk 1 0 s [])=s.data.toList by rw [aP.eq_def];exact rfl]
  have:=Sa h0
  rw [oY]
  omega
 | @un op a ho _ ih=>
  have ha:=ih (hk.kids a (by simp [fR,Ex.kids]))
  have hs:=mU op
  rw [No op a ho,Bt,O_,gC]
  unfold wr
  omega
 | @bin op a b h4 h16 _ _ iha ihb=>
  have ha:=iha (hk.kids a (by simp [eY,Ex.kids]))
  have hb:=ihb (hk.kids b (by simp [eY,Ex.kids]))
  have hs:=mU op
  rw [Np op a b h4,Bu]
  simp only [O_,gC,P_,b_]
  unfold wr
  omega
theorem Bx {n m b0 b1 b2 b3 c1 c2 c3} (hw:(decodeN n b0 b1 b2 b3).2≤m) (h1:1<m→c1=b1) (h2:2<m→c2=b2) (h3:3<m→c3=b3) (hv:decodeN n b0 b1 b2 b3≠(65533,1)):decodeN m b0 c1 c2 c3=decodeN n b0 b1 b2 b3:=by
 rcases decodeN_shape n b0 b1 b2 b3 with ⟨c,e⟩ | ⟨c1',c2',c3',cv,e⟩ | ⟨c1',c2',c3',c4',cv,cs,e⟩ | ⟨c1',c2',c3',c4',c5',cv,cw,e⟩ | e
 ·rw [e];unfold decodeN;rw [M_ c]
 ·rw [e] at hw
  simp only at hw
  obtain rfl:=h1 (by omega)
  rw [e];unfold decodeN;rw [K_ (by omega),M_ ⟨c1',by omega,c3'⟩,M_ (by omega)]
 ·rw [e] at hw
  simp only at hw
  obtain rfl:=h1 (by omega)
  obtain rfl:=h2 (by omega)
  rw [e];unfold decodeN;rw [K_ (by omega),K_ (by omega),M_ ⟨c1',⟨by omega,c3'⟩,by omega,c4'⟩,M_ (by omega)]
 ·rw [e] at hw
  simp only at hw
  obtain rfl:=h1 (by omega)
  obtain rfl:=h2 (by omega)
  obtain rfl:=h3 (by omega)
  rw [e];unfold decodeN;rw [K_ (by omega),K_ (by omega),K_ (by omega),M_ ⟨c1',⟨by omega,c3'⟩,⟨by omega,c4'⟩,by omega,c5'⟩,M_ (by omega)]
 ·exact absurd e hv
theorem pT {l:List UInt8} {m i:Nat} (h:i<m):(l.take m).getD i 0=l.getD i 0:=by
 simp [List.getD,List.getElem?_take_of_lt h]
theorem By {l m} (hm:m≤l.length) (hw:(decodeL l).2≤m) (hv:decodeL l≠(65533,1)):decodeL (l.take m)=decodeL l:=by
 have h1:=decodeL_width l
 rw [decodeL_N] at hv hw
 rw [decodeL_N,decodeL_N,pT (by have:=decodeL_width l;rw [decodeL_N] at this;omega),l_,Nat.min_eq_left hm]
 exact Bx hw (fun h=>by rw [pT h]) (fun h=>by rw [pT h]) (fun h=>by rw [pT h]) hv
end Go.Proofs.YtgcfjkfipkfijaaGreatDoor
