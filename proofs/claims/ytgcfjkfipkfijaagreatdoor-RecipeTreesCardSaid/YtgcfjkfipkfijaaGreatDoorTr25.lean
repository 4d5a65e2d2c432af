/- Part 25 of the proof of rtrees_card; no conditions. -/
import Derived.Test.YtgcfjkfipkfijaaGreatDoorTr01
import Derived.Test.YtgcfjkfipkfijaaGreatDoorTr02
import Derived.Test.YtgcfjkfipkfijaaGreatDoorTr05
import Derived.Test.YtgcfjkfipkfijaaGreatDoorTr24
import Derived.Test.YtgcfjkfipkfijaaGreatDoorTr10
set_option maxRecDepth 100000
set_option maxHeartbeats 4000000
namespace Go.Proofs.YtgcfjkfipkfijaaGreatDoor
open Go Go.RowKit _root_.Go.Proofs.Tryz
mutual
def fA:Ex→Int→Int
 | .mk op n nm ks,most=>
  if most<1∨op<0∨16<op then -1
  else if op=0∨op=1 then (if 0<ks.length∨op=0∧(n<0∨nm.size≠0)∨op=1∧(n≠0∨gI nm=false) then -1 else most - 1)
  else if ks.length≠aX op∨n≠0∨nm.size≠0 then -1
  else gH op ks 0 (most - 1)
def gH (op:Int):List Ex→Int→Int→Int
 | [],_,most=>most
 | k::ks,i,most=>if fA k most<0 then -1 else gH op ks (i+1) (fA k most - (if aG op k.op i then 2 else 0))
end
theorem xH (op i most):gH op [] i most=most:=rfl
theorem jS {op i most k ks}:gH op (k::ks) i most=if fA k most<0 then -1 else gH op ks (i+1) (fA k most - (if aG op k.op i then 2 else 0)):=by rw [gH]
theorem uB (e) {most} (h:most<1):fA e most=-1:=by
 obtain ⟨o,n,nm,ks⟩:=e
 rw [fA,M_ (.inl h)]
theorem Jd (op i ks) {most} (h:most<0):gH op ks i most<0:=by
 cases ks with
 | nil=>exact h
 | cons k ks=>rw [jS,uB k (by omega),M_ (by decide)];decide
theorem uQ {op i n most k ks}:cD op (k::ks) i n most =
  if bM k (most - n)<0 then -1
  else if most<n+bM k (most - n)+(if aG op k.op i then 2 else 0) then -1
  else cD op ks (i+1) (n+bM k (most - n)+(if aG op k.op i then 2 else 0)) most:=by rw [cD]
theorem Sx (N):(∀e:Ex,SizeOf.sizeOf e<N→∀most,0≤most→(0≤bM e most→bM e most≤most→fA e most=most - bM e most)∧(bM e most<0∨most<bM e most→fA e most<0)) ∧
  (∀ks:List Ex,SizeOf.sizeOf ks<N→∀op i n most,n≤most→(0≤cD op ks i n most→gH op ks i (most - n)=most - cD op ks i n most)∧(cD op ks i n most<0→0≤n→gH op ks i (most - n)<0)):=by
 induction N with
 | zero=>exact ⟨fun _ h=>absurd h (by omega),fun _ h=>absurd h (by omega)⟩
 | succ N ih=>
  refine ⟨fun e he most hm=>?_,fun ks hk op i n most hn=>?_⟩
  ·obtain ⟨o,n,nm,ks⟩:=e
   have hs:SizeOf.sizeOf ks<N:=by simp at he;omega
   rw [bM,fA]
   by_cases h0:o=0∨o=1
   ·rw [M_ h0,M_ h0]
    by_cases hm1:most<1
    ·rw [M_ (show most<1∨o<0∨16<o from .inl hm1)]
     split <;> omega
    ·rw [K_ (show ¬(most<1∨o<0∨16<o) by omega)]
     split <;> omega
   ·rw [K_ h0,K_ h0]
    by_cases h1:o<0∨16<o∨n≠0∨nm.size≠0∨ks.length≠aX o∨most<1
    ·rw [M_ h1]
     refine ⟨fun h=>absurd h (by decide),fun _=>?_⟩
     split
     ·decide
     ·rw [M_ (by omega)];decide
    ·rw [K_ h1,K_ (show ¬(most<1∨o<0∨16<o) by omega),K_ (show ¬(ks.length≠aX o∨n≠0∨nm.size≠0) by omega)]
     have h:=ih.2 ks hs o 0 1 most (by omega)
     have hle:=vS ks o 0 1 most (.inl (by omega))
     refine ⟨fun h2 _=>h.1 h2,fun h2=>h.2 (by omega) (by decide)⟩
  ·cases ks with
   | nil=>
    rw [show cD op [] i n most=n from rfl,xH]
    exact ⟨fun _=>rfl,fun h h'=>by omega⟩
   | cons x xs=>
    have hx:SizeOf.sizeOf x<N:=by simp at hk;omega
    have hxs:SizeOf.sizeOf xs<N:=by simp at hk;omega
    rw [uQ,jS]
    have h1:=ih.1 x hx (most - n) (by omega)
    have hz:(0:Int)≤(if aG op x.op i=true then 2 else 0):=by split <;> omega
    generalize (if aG op x.op i=true then (2:Int) else 0)=z at hz ⊢
    obtain ⟨t,ht⟩:=nm_ (bM x (most - n))
    rw [ht] at h1 ⊢
    by_cases ht0:t<0
    ·rw [M_ ht0,M_ (h1.2 (.inl ht0))]
     exact ⟨fun h=>absurd h (by decide),fun _ _=>by decide⟩
    ·rw [K_ ht0]
     by_cases htm:most - n<t
     ·rw [M_ (by omega),M_ (h1.2 (.inr htm))]
      exact ⟨fun h=>absurd h (by decide),fun _ _=>by decide⟩
     ·have h2:=h1.1 (by omega) (by omega)
      rw [h2,K_ (show ¬most - n - t<0 by omega)]
      by_cases hw:most<n+t+z
      ·rw [M_ hw]
       exact ⟨fun h=>absurd h (by decide),fun _ _=>Jd op _ xs (by omega)⟩
      ·rw [K_ hw,show most - n - t - z=most - (n+t+z) by omega]
       have h3:=ih.2 xs hxs op (i+1) (n+t+z) most (by omega)
       exact ⟨h3.1,fun h h'=>h3.2 h (by omega)⟩
theorem Wz (e most):bM e most≠0:=by
 obtain ⟨o,n,nm,ks⟩:=e
 rw [bM]
 have key:∀(ks:List Ex) (op i n most:Int),1≤n→cD op ks i n most≠0:=by
  intro ks
  induction ks with
  | nil=>intro op i n most h;rw [show cD op [] i n most=n from rfl];omega
  | cons k ks ih=>
   intro op i n most h
   rw [uQ]
   have hz:(0:Int)≤(if aG op k.op i=true then 2 else 0):=by split <;> omega
   generalize (if aG op k.op i=true then (2:Int) else 0)=z at hz ⊢
   split
   ·decide
   ·split
    ·decide
    ·exact ih _ _ _ _ (by omega)
 split
 ·split <;> decide
 ·split
  ·decide
  ·exact key _ _ _ _ _ (by decide)
theorem Sy (e):decide (0≤fA e 64)=oN e:=by
 have h:=(Sx (SizeOf.sizeOf e+1)).1 e (by omega) 64 (by decide)
 have hn:=Wz e 64
 unfold oN
 by_cases h1:0<bM e 64
 ·by_cases h2:bM e 64≤64
  ·rw [W_ h1,W_ h2,h.1 (by omega) h2,W_ (by omega)];rfl
  ·have:=h.2 (.inr (by omega))
   rw [W_ h1,V_ h2,V_ (by omega)];rfl
 ·have:=h.2 (.inl (by omega))
  rw [V_ h1,V_ (by omega)];rfl
theorem Sz (N):(∀e:Ex,SizeOf.sizeOf e<N→∀most,-1≤most→fA e most≤most)∧(∀ks:List Ex,SizeOf.sizeOf ks<N→∀op i most,gH op ks i most≤most∨gH op ks i most=-1):=by
 induction N with
 | zero=>exact ⟨fun _ h=>absurd h (by omega),fun _ h=>absurd h (by omega)⟩
 | succ N ih=>
  refine ⟨fun e he most hm=>?_,fun ks hk op i most=>?_⟩
  ·obtain ⟨o,n,nm,ks⟩:=e
   have hs:SizeOf.sizeOf ks<N:=by simp at he;omega
   rw [fA]
   split
   ·omega
   ·split
    ·split <;> omega
    ·split
     ·omega
     ·have:=ih.2 ks hs o 0 (most - 1)
      omega
  ·cases ks with
   | nil=>exact .inl (m_ _)
   | cons x xs=>
    have hx:SizeOf.sizeOf x<N:=by simp at hk;omega
    have hxs:SizeOf.sizeOf xs<N:=by simp at hk;omega
    rw [jS]
    have hz:(0:Int)≤(if aG op x.op i=true then 2 else 0):=by split <;> omega
    generalize (if aG op x.op i=true then (2:Int) else 0)=z at hz ⊢
    split
    ·exact .inr rfl
    ·rename_i h
     have h1:fA x most≤most:=by
      by_cases hm:most<1
      ·have:=uB x hm;omega
      ·exact ih.1 x hx most (by omega)
     have h2:=ih.2 xs hxs op (i+1) (fA x most - z)
     omega
theorem Ta (N):(∀e:Ex,SizeOf.sizeOf e<N→∀most,-2≤fA e most)∧(∀ks:List Ex,SizeOf.sizeOf ks<N→∀op i most,-2≤most→-2≤gH op ks i most):=by
 induction N with
 | zero=>exact ⟨fun _ h=>absurd h (by omega),fun _ h=>absurd h (by omega)⟩
 | succ N ih=>
  refine ⟨fun e he most=>?_,fun ks hk op i most hm=>?_⟩
  ·obtain ⟨o,n,nm,ks⟩:=e
   have hs:SizeOf.sizeOf ks<N:=by simp at he;omega
   rw [fA]
   split
   ·omega
   ·split
    ·split <;> omega
    ·split
     ·omega
     ·exact ih.2 ks hs o 0 (most - 1) (by omega)
  ·cases ks with
   | nil=>exact hm
   | cons x xs=>
    have hxs:SizeOf.sizeOf xs<N:=by simp at hk;omega
    rw [jS]
    have hz:(if aG op x.op i=true then (2:Int) else 0)≤2:=by split <;> omega
    generalize (if aG op x.op i=true then (2:Int) else 0)=z at hz ⊢
    split
    ·omega
    ·exact ih.2 xs hxs op (i+1) _ (by omega)
end Go.Proofs.YtgcfjkfipkfijaaGreatDoor
namespace Go.Proofs.YtgcfjkfipkfijaaGreatDoor
open Go Go.RowKit Go.Lib _root_.Go.Proofs.Tryz
theorem qA (op w):Calls prog 143 #[.int .i64 op] w fun e w'=>e=.returned (.int .i64 (cJ op))∧w'=w:=by
 go_enter func143,ntmps143
 go_wp2
 all_goals
  go_ret
  refine ⟨bU ?_,rfl⟩
  simp only [beq_iff_eq,beq_eq_false_iff_ne,ne_eq] at *
  unfold cJ
  (repeat (first | rw [M_ (by omega)] | rw [K_ (by omega)]))
def AI:Array Value:=#[.string ⟨#[]⟩,.string ⟨#[]⟩,.string ⟨#[45]⟩,.string ⟨#[33]⟩,.string ⟨#[43]⟩,.string ⟨#[45]⟩,.string ⟨#[42]⟩,.string ⟨#[47]⟩,.string ⟨#[37]⟩,.string ⟨#[60]⟩,.string ⟨#[60,61]⟩,.string ⟨#[62]⟩,.string ⟨#[62,61]⟩,.string ⟨#[61,61]⟩,.string ⟨#[33,61]⟩,.string ⟨#[38]⟩,.string ⟨#[124]⟩]
theorem Xa (i) (h2:2≤i) (h:i<17):AI[i]? = some (.string (cZ i)):=by
 have hi:i=2∨i=3∨i=4∨i=5∨i=6∨i=7∨i=8∨i=9∨i=10∨i=11∨i=12∨i=13∨i=14∨i=15∨i=16:=by omega
 rcases hi with rfl | rfl | rfl | rfl | rfl | rfl | rfl | rfl | rfl | rfl | rfl | rfl | rfl | rfl | rfl <;> rfl
theorem Ak (i:Nat) (h2:2≤i) (h:i<17) (w:World):Calls prog 128 #[.int .i64 i] w fun e w'=>e=.returned (.string (cZ i))∧Below w.heap.size w w':=by
 have hz:(i:Int)<17:=by omega
 have hz0:(0:Int)≤i:=by omega
 have hs:=Xa i h2 h
 unfold AI at hs
 clear h2 h
 go_enter func128,ntmps128
 go_wp2_with fail
 go_ret
 exact ⟨rfl,(J_ _ _).alloc le_ _⟩
theorem jC (l A c i w) (hr:cN.Row [] w A l) (hlc:l.length≤c) :
  Calls prog 134 #[.slice A l.length c,.int .i64 i] w fun r w'=>r=.returned (nO (aE l i))∧Below w.heap.size w w':=by
 have HR:=hid hr
 have hm:=hr.1
 clear hr
 by_cases h1:i<0
 ·have HX:Hid (aE l i=cB):=by unfold aE;rw [M_ (.inl h1)];exact rfl
  have h1b:decide (i<0)=true:=W_ h1
  go_enter func134,ntmps134
  go_wp2_with fail
  refine L_ (v:=.agg #[.int .i64 0,.string ⟨#[]⟩,.int .i64 0,.int .i64 0]) (by simp [results,results134,go_sem]) rfl ⟨by rw [HX.out];rfl,?_⟩
  exact (J_ _ _).alloc le_ _
 ·by_cases h2:(l.length:Int)≤i
  ·have HX:Hid (aE l i=cB):=by unfold aE;rw [M_ (.inr h2)];exact rfl
   have h1b:decide (i<0)=false:=V_ h1
   have h2b:decide ((l.length:Int)≤i)=true:=W_ h2
   go_enter func134,ntmps134
   go_wp2_with fail
   refine L_ (v:=.agg #[.int .i64 0,.string ⟨#[]⟩,.int .i64 0,.int .i64 0]) (by simp [results,results134,go_sem]) rfl ⟨by rw [HX.out];rfl,?_⟩
   exact (J_ _ _).alloc le_ _
  ·obtain ⟨k,rfl⟩:=r_ (show 0≤i by omega)
   have hk:k<l.length:=by omega
   obtain ⟨ad,rfl⟩:=mR HR.out (by omega)
   obtain ⟨x0,x1,x2,x3⟩:=lH HR.out k hk
   have hlt:=N_ w _ x0
   have HX:Hid (aE l (k:Int)=l[k]):=by
    unfold aE
    rw [K_ (by omega),Int.toNat_natCast,S_,R_ hk]
    exact rfl
   have h1b:decide ((k:Int)<0)=false:=V_ h1
   have h2b:decide (l.length≤k)=false:=V_ (by omega)
   have h2c:decide ((l.length:Int)≤(k:Int))=false:=V_ h2
   have hkz:(k:Int)<l.length:=by omega
   have hk0:(0:Int)≤k:=by omega
   have hlcz:(l.length:Int)≤c:=by omega
   obtain ⟨t,ht⟩:=nm_ (l[k])
   rw [ht] at HX x0 x1 x2 x3
   clear h1 h2 ht
   go_enter func134,ntmps134
   go_wp2_with fail
   refine L_ (v:=nO t) (by simp [results,results134,go_sem,nO]) rfl ⟨by rw [HX.out],?_⟩
   exact (J_ _ _).alloc le_ _
theorem kS (t s w) :
  Calls prog 151 #[nO t,.string s] w fun r w'=>r=.returned (.bool (t.kind == 4 && dK t.text s))∧Below w.heap.size w w':=by
 obtain ⟨k,x,n,p⟩:=t
 unfold nO
 by_cases hk:k=4
 ·subst hk
  go_enter func151,ntmps151
  go_wp2_with fail
  go_ret
  exact ⟨cO (by rw [show ((4:Int) == 4 && dK x s)=dK x s from rfl];unfold dK;rw [Lib.toList_data,Lib.toList_data]),(J_ _ _).alloc le_ _⟩
 ·have hkb:(k == 4)=false:=by rw [beq_eq_false_iff_ne];exact hk
  have HX:Hid ((k == 4 && dK x s)=false):=hid (by rw [hkb];rfl)
  clear hk
  go_enter func151,ntmps151
  go_wp2_with fail
  go_ret
  exact ⟨cO (by rw [HX.out]),(J_ _ _).alloc le_ _⟩
def Vj (n:Int) (t:bQ):Nat→Int→Int
 | 0,_=>-1
 | k+1,op=>if cJ op=n∧dK (cZ op) t.text=true then op else Vj n t k (op+1)
def uC (n:Int) (t:bQ):Int:=if t.kind=4 then Vj n t 13 4 else -1
theorem Ff {n t}:∀(k:Nat) (a:Int),(∀op,a≤op→op<a+k→¬(cJ op=n∧dK (cZ op) t.text=true))→Vj n t k a=-1
 | 0,_,_=>rfl
 | k+1,a,h=>by
  rw [Vj,K_ (h a (m_ _) (by omega))]
  exact Ff k (a+1) (fun op h1 h2=>h op (by omega) (by omega))
theorem Fg {n t op} (hs:cJ op=n∧dK (cZ op) t.text=true):∀(k:Nat) (a:Int),a≤op→op<a+k→(∀o,a≤o→o<op→¬(cJ o=n∧dK (cZ o) t.text=true))→Vj n t k a=op
 | 0,_,h1,h2,_=>by omega
 | k+1,a,h1,h2,h=>by
  rw [Vj]
  by_cases e:a=op
  ·subst e;rw [M_ hs]
  ·rw [K_ (h a (m_ _) (by omega))]
   exact Fg hs k (a+1) (by omega) (by omega) (fun o h1 h2=>h o (by omega) h2)
theorem Fh (l:List bQ) (i:Int) (n:Nat) (h1:1≤n) (h5:n≤5):uC n (aE l i)=match iR l (lo n) (hi n) ⟨i,0⟩ with | none=>-1 | some op=>op:=by
 by_cases h:∃op,4≤op∧op≤16∧cJ op=n∧Hi op (aE l i)
 ·obtain ⟨op,h4,h16,hl,hs⟩:=h
  have hlo:=Vz op n h4 h16 hl
  rw [Rq h1 h5 hlo.1 hlo.2.1 hs]
  unfold uC
  rw [M_ hs.1]
  exact Fg ⟨hl,hs.2⟩ 13 4 h4 (by omega) (fun o ho1 ho2 ho3=>by
   have:=Lb ho1 (by omega) h4 h16 ⟨hs.1,ho3.2⟩ hs
   omega)
 ·have hno:iR l (lo n) (hi n) ⟨i,0⟩=none:=by
   cases hp:iR l (lo n) (hi n) ⟨i,0⟩ with
   | none=>rfl
   | some op=>
    have hn:n=1∨n=2∨n=3∨n=4∨n=5:=by omega
    have hlh:lo n≤hi n:=by rcases hn with rfl | rfl | rfl | rfl | rfl <;> decide
    have his:=Rx hp hlh
    have hol:=vG op n h1 h5 his.1 his.2.1
    exact absurd ⟨op,hol.1,hol.2.1,hol.2.2,his.2.2⟩ h
  rw [hno]
  unfold uC
  split
  ·rename_i hk
   exact Ff 13 4 (fun op ho1 ho2 ho3=>h ⟨op,ho1,by omega,ho3.1,hk,ho3.2⟩)
  ·rfl
theorem Tb (n t w) :
  Calls prog 133 #[.int .i64 n,nO t] w fun r w'=>r=.returned (.int .i64 (uC n t))∧Below w.heap.size w w':=by
 obtain ⟨tk,tx,tn,tp⟩:=t
 unfold nO
 obtain ⟨w0,hw0,hal,hq⟩:=alo_ w (.cells #[.int .i64 tk,.string tx,.int .i64 tn,.int .i64 tp] 60 (0,0))
 have HAL:=hid hal
 have HQ:=hid hq
 have HW0:=hid hw0
 clear hal hq hw0
 by_cases hk:tk=4
 ·subst hk
  have HX:Hid (uC n ⟨4,tx,tn,tp⟩=Vj n ⟨4,tx,tn,tp⟩ 13 4):=hid (M_ rfl)
  obtain ⟨ANS,hANS⟩:=nm_ (Vj n ⟨4,tx,tn,tp⟩ 13 4)
  have HANS:=hid hANS
  clear hANS
  go_enter func133,ntmps133
  go_wp2_with fail
  rw [HW0.out]
  go_loopg [5] 14 (fun k s5 w'=>∃op:Int,s5=.int .i64 op∧4≤op∧op≤17∧(17 - op).toNat<k∧Vj n ⟨4,tx,tn,tp⟩ (17 - op).toNat op=ANS∧Below w0.heap.size w0 w')
  case atStart=>exact ⟨4,rfl,by decide,by decide,by decide,HANS.out,J_ _ _⟩
  case round=>
   obtain ⟨op,rfl,h4,h17,hok,hans,hbl⟩:=hrel
   obtain ⟨gk,rfl⟩:=pk_ gk 1 (by omega)
   have HBW:=hid hbl
   have hqr:=bp_ hbl HQ.out
   have k1:wr.cell? ⟨w.heap.size,1,none⟩=some (.string tx):=(aB hqr 1).trans rfl
   have hlK:=aC hqr
   clear hbl
   by_cases hle:op≤16
   ·obtain ⟨m,hm⟩:∃m,(17 - op).toNat=m+1:=⟨(16 - op).toNat,by omega⟩
    have hm':(17 - (op+1)).toNat=m:=by omega
    rw [hm,Vj] at hans
    obtain ⟨o,rfl⟩:=r_ (show 0≤op by omega)
    have HSG:=hid (fun W=>Ak o (by omega) (by omega) W)
    by_cases hl:cJ (o:Int)=n
    ·have hlb:(cJ (o:Int) == n)=true:=D_ hl
     obtain ⟨q,hq⟩:=nm_ (dK (cZ (o:Int)) tx)
     have hq':((cZ (o:Int)).toList == tx.toList)=q:=by rw [Lib.toList_data,Lib.toList_data];exact hq
     rw [show dK (cZ (o:Int)) (⟨4,tx,tn,tp⟩:bQ).text=q from hq] at hans
     obtain ⟨sgn,hsgn⟩:=nm_ (cZ (o:Int))
     rw [hsgn] at HSG hq'
     have HL:Hid (∀W,Calls prog 143 #[.int .i64 o] W fun e w'=>e=.returned (.int .i64 n)∧w'=W):=hid (fun W=>by have:=qA o W;rwa [hl] at this)
     have HN:=hj_ hl hans
     have HM:=hid hm'
     clear hl hlb hq hsgn hans hm hm'
     go_wp2_with fail
     go_cut [23] (fun s23 wx=>s23=.bool q∧Below wr.heap.size wr wx)
     case first=>
      go_region_with (first
       | (go_at_call 143;refine (HL.out _).mono ?_;rintro e w' ⟨rfl,rfl⟩)
       | (go_at_call 128;refine (HSG.out _).mono ?_;rintro e w5 ⟨rfl,hb5⟩;have z1:=(hb5.cell (p:=⟨w.heap.size,1,none⟩) hlK).trans k1;have HB5:=hid hb5;clear hb5))
      all_goals
       go_wp2_with fail
       go_meet
       exact ⟨rfl,by first | exact HB5.out | exact (J_ _ _).drew.trans HB5.out⟩
     case rest=>
      obtain ⟨rfl,hbx⟩:=hcut
      have HBX:=hid hbx
      clear hbx k1 hlK
      cases q
      ·go_wp2_with fail
       go_roundg gk
       case measure=>omega
       case rel=>
        refine ⟨(o:Int)+1,rfl,by omega,by omega,by omega,?_,HBW.out.trans (HBX.out.mono HBW.out.size)⟩
        have h:=HN.out.2
        rw [K_ (fun h=>by cases h.2)] at h
        rw [HM.out]
        exact h
      ·go_wp2_with fail
       go_ret
       refine ⟨bU ?_,HAL.out.trans ((HBW.out.trans (HBX.out.mono HBW.out.size)).mono HAL.out.size)⟩
       have h:=HN.out.2
       rw [M_ ⟨HN.out.1,by simp⟩] at h
       rw [HX.out,HANS.out,h]
    ·have hlb:(cJ (o:Int) == n)=false:=A_ hl
     rw [K_ (fun h=>hl h.1)] at hans
     have HN:=hid hans
     have HM:=hid hm'
     obtain ⟨L,hL⟩:=nm_ (cJ (o:Int))
     have HL:Hid (∀W,Calls prog 143 #[.int .i64 o] W fun e w'=>e=.returned (.int .i64 L)∧w'=W):=hid (fun W=>by have:=qA o W;rwa [hL] at this)
     rw [hL] at hlb
     clear hl hans hm hm' hL
     go_wp2_with fail
     go_quiet ((go_at_call 143;exact Calls.quiet_of_same (HL.out _)))
     go_wp2_with fail
     go_roundg gk
     case measure=>omega
     case rel=>
      refine ⟨(o:Int)+1,rfl,by omega,by omega,by omega,?_,dM HBW.out _⟩
      rw [HM.out]
      exact HN.out
   ·obtain rfl:op=17:=by omega
    have HN:=hid hans
    clear hans h4 h17 hle
    go_wp2_with fail
    go_ret
    refine ⟨bU ?_,HAL.out.trans (HBW.out.mono HAL.out.size)⟩
    rw [HX.out,HANS.out]
    exact HN.out
 ·have hkb:(tk == 4)=false:=by rw [beq_eq_false_iff_ne];exact hk
  have HX:Hid (uC n ⟨tk,tx,tn,tp⟩=-1):=hid (K_ hk)
  clear hk
  go_enter func133,ntmps133
  go_wp2_with fail
  go_ret
  exact ⟨bU HX.out.symm,by first | exact HAL.out | exact HW0.out▸HAL.out | exact (J_ _ _).alloc le_ _⟩
end Go.Proofs.YtgcfjkfipkfijaaGreatDoor
