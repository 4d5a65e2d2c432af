/- Part 4 of the proof of rtrees_card; no conditions. -/
import Derived.Test.YtgcfjkfipkfijaaGreatDoorTr01
import Derived.Test.YtgcfjkfipkfijaaGreatDoorTr02
import Derived.Test.YtgcfjkfipkfijaaGreatDoorTr03
import Derived.Laws.AppendOwn
import Derived.Laws.OwnMore
import Derived.Deep.AppendLies
import Derived.Deep.LoopGhost
import Derived.ChangeAlike
import Derived.RegionTactic
import Derived.BigQuiet
set_option maxRecDepth 100000
set_option maxHeartbeats 4000000
namespace Go.Proofs.YtgcfjkfipkfijaaGreatDoor
open Go Go.RowKit _root_.Go.Proofs.Tryz
variable {M : List Nat} {xs : List Value} {base n size : Nat} {α : Type} {e : TypeId} {v : Value} {w : World} {d : aN α}
theorem dM {B w W} (h:Below B w W) (n):Below B w (W.drewN n):=⟨h.os,h.tape,h.output,h.size,h.block⟩
theorem aH {B k w W} (h:Below B w W) (hk:B≤k) (a b c d):Below B w ((((W.setCell ⟨k,0,none⟩ a).setCell ⟨k,1,none⟩ b).setCell ⟨k,2,none⟩ c).setCell ⟨k,3,none⟩ d):=
 (((h.setCell hk a).setCell hk b).setCell hk c).setCell hk d
theorem mR {A:Option Addr} {xs:List α} (h:d.Row M w A xs) (hp:0<xs.length):∃ad,A=some ad:=by
 obtain ⟨ad,e,_⟩:=h.2 hp
 exact ⟨ad,e⟩
theorem cQ {α β:Type} {f:α→List β} {n} (hf:∀x,(f x).length=n):∀(l:List α) (i j:Nat) (h:i<l.length),j<n→(l.flatMap f)[i*n+j]? = (f l[i])[j]?
 | x::l,0,j,_,hj=>by
  rw [i_,Nat.zero_mul,Nat.zero_add,List.getElem?_append_left (by rw [hf];exact hj)]
  rfl
 | x::l,i+1,j,h,hj=>by
  rw [i_,List.getElem?_append_right (by rw [hf,Nat.succ_mul];omega),hf]
  have:(i+1)*n+j - n=i*n+j:=by rw [Nat.succ_mul];omega
  rw [this,cQ hf l i j (by simpa using h) hj]
  rfl
theorem nN {enc:α→List Value} (hl:∀x,(enc x).length=d.sz) {xs:List α}
  (h:w.ownsRow base e d.sz v xs.length (xs.flatMap enc)) (hM:∀k,k∈M→k<base) (hr:∀x,x∈xs→d.rep M w x (enc x)) :
  ∃A c,v=.slice A xs.length c∧xs.length≤c∧d.Row M w A xs:=by
 rcases h.2 with ⟨rfl,h0⟩ | ⟨g,cap,cur,rfl,hg,hh,h1,h2,h3,h4⟩
 ·obtain rfl:xs=[]:=X_ h0
  exact ⟨none,0,rfl,H_ _,aN.Row.nil _ _ _ _⟩
 ·refine ⟨_,cap,rfl,h1,by simp only [maxLen] at h2;omega,fun hn=>⟨_,rfl,fun hc=>?_,(C_ hh).1,fun i hi=>⟨enc xs[i],hr _ (g_ hi),fun j u hu=>?_⟩⟩⟩
  ·have:=hM _ hc
   simp at this
   omega
  ·have hj:j<d.sz:=by
    rw [←hl xs[i]]
    exact (List.getElem?_eq_some_iff.1 hu).1
   exact h.cells (g:=g) rfl (i*d.sz+j) u (by rw [cQ hl xs i j hi hj];exact hu)
theorem aS (h:w.ownsRow base e size v n xs) (k) (hk:v.ownBlock=some k):base≤k∧k<w.heap.size:=by
 rcases h.2 with ⟨rfl,_⟩ | ⟨g,cap,cur,rfl,hb,hh,_⟩
 ·simp [Value.ownBlock] at hk
 ·have:g=k:=by simpa [Value.ownBlock] using hk
  subst this
  exact ⟨hb,(C_ hh).1⟩
theorem iW {w w1 base e size v n xs} (h:w.ownsRow base e size v n xs) (hb:Below w.heap.size w w1):w1.ownsRow base e size v n xs:=
 h.kept (row:=none) ⟨hb.os,hb.tape,hb.output,hb.size,fun i hi _=>hb.block i hi⟩ (by cases v.ownBlock <;> simp)
theorem Di {w w1 base M e size v n xs} (h:w.ownsRow base e size v n xs) (hs:Same M w w1) (hM:∀k,k∈M→k<base):w1.ownsRow base e size v n xs:=by
 refine ⟨h.1,?_⟩
 rcases h.2 with h' | ⟨g,cap,cur,hv,hg,hh,r⟩
 ·exact .inl h'
 ·exact .inr ⟨g,cap,cur,hv,hg,hs.heap (fun hc=>by have:=hM _ hc;omega) hh,r⟩
theorem jJ (h:w.ownsRow base e size v n xs) {p:Addr} (hp:v.ownBlock≠some p.block) (u):(w.setCell p u).ownsRow base e size v n xs:=by
 refine ⟨h.1,?_⟩
 rcases h.2 with h' | ⟨g,cap,cur,hv,hg,hh,r⟩
 ·exact .inl h'
 ·exact .inr ⟨g,cap,cur,hv,hg,by rw [Below.heap_setCell _ _ _ _ (fun e=>hp (by rw [hv,e];rfl))];exact hh,r⟩
def uX (t:bQ):List Value:=[.int .i64 t.kind,.string t.text,.int .i64 t.n,.int .i64 t.at_]
theorem Dj (M w t):cN.rep M w t (uX t):=⟨[_],_,rfl,rfl,[_],_,rfl,rfl,[_],_,rfl,rfl,rfl⟩
theorem Dk (t):(uX t).length=cN.sz:=rfl
end Go.Proofs.YtgcfjkfipkfijaaGreatDoor
namespace Go.Proofs.YtgcfjkfipkfijaaGreatDoor
open Go Go.RowKit Go.Lib _root_.Go.Proofs.Tryz
variable {s : ByteArray} {a b : Int}
abbrev eJ (e:Ex) (A:Option Addr) (c:Nat):Value:=.agg #[.int .i64 e.op,.int .i64 e.n,.string e.name,.slice A e.kids.length c]
theorem Yq (op w):Calls prog 172 #[.int .i64 op] w fun e w'=>e=.returned (.int .i64 (cJ op))∧w'=w:=(Qv op w).mono (by rintro e w' ⟨rfl,rfl⟩;exact ⟨rfl,rfl⟩)
theorem uJ (e:Ex) (A:Option Addr) (c i:Nat) (w:World) (hr:gU.Row [] w A e.kids) (hi:i<e.kids.length) (_hlc:e.kids.length≤c) :
  Calls prog 168 #[eJ e A c,.int .i64 i] w fun r w'=>r=.returned (.bool (aG e.op e.kids[i].op i))∧Below w.heap.size w w':=by
 obtain ⟨ad,A',c',hA,h0,h1,h2,h3,_,_,_⟩:=Qs hr i hi
 subst hA
 obtain ⟨o1,ho1⟩:=nm_ e.op
 obtain ⟨o2,ho2⟩:=nm_ (e.kids[i].op)
 obtain ⟨L,hL⟩:=nm_ e.kids.length
 have HX:Hid (aG o1 o2 i=(decide (cJ o2<cJ o1) || (cJ o2 == cJ o1 && decide (cJ o1<6) && ((i:Int) == 1 || cJ o1 == 3)))):=rfl
 unfold eJ
 rw [ho2] at h0
 rw [ho1,ho2,hL]
 rw [hL] at hi
 have hlt:=N_ w _ h0
 have hz:(i:Int)<L:=by omega
 have hz0:(0:Int)≤i:=by omega
 clear h1 h2 h3 hr ho1 ho2 hL
 go_enter func168,ntmps168
 go_wp2_with fail
 go_quiet ((go_at_call 172;exact Calls.quiet_of_same (Yq _ _)))
 go_wp2_with fail
 all_goals
  go_ret
  refine ⟨cO ?_,dM ((J_ _ _).alloc le_ _) _⟩
  rw [HX.out]
  generalize cJ o1=l1 at *
  generalize cJ o2=l2 at *
  clear HX
  first
  | (simp [*];done)
  | (simp [*];omega)
theorem yW {e most} (h:e.op=0∨e.op=1) (h2:0<e.kids.length∨e.op=0∧(e.n<0∨e.name.size≠0)∨e.op=1∧(e.n≠0∨gI e.name=false)):bM e most=-1:=by
 rw [e.eta,bM,M_ h,M_ h2]
theorem Mu {e most} (h:e.op=0∨e.op=1) (h2:¬(0<e.kids.length∨e.op=0∧(e.n<0∨e.name.size≠0)∨e.op=1∧(e.n≠0∨gI e.name=false))):bM e most=1:=by
 rw [e.eta,bM,M_ h,K_ h2]
theorem Rb {e most} (h:¬(e.op=0∨e.op=1)) (h2:e.op<0∨16<e.op∨e.n≠0∨e.name.size≠0∨e.kids.length≠aX e.op∨most<1):bM e most=-1:=by
 rw [e.eta,bM,K_ h,M_ h2]
theorem Mv {e most} (h:¬(e.op=0∨e.op=1)) (h2:¬(e.op<0∨16<e.op∨e.n≠0∨e.name.size≠0∨e.kids.length≠aX e.op∨most<1)):bM e most=cD e.op e.kids 0 1 most:=by
 conv=>lhs;rw [e.eta]
 rw [bM,K_ h,K_ h2]
theorem iX (h:s.size≠0):s.toList.isEmpty=false:=by have:=lF s;rw [W_ h] at this;simpa using this
theorem hH (h:s.size=0):s.toList.isEmpty=true:=by have:=lF s;rw [V_ (by omega)] at this;simpa using this
theorem Dl (e A c most w) (hop:e.op=0∨e.op=1) (hk:dU e) (hT:cF w) :
  Calls prog 158 #[eJ e A c,.int .i64 most] w fun r w'=>r=.returned (.int .i64 (bM e most))∧Below w.heap.size w w':=by
 have hnl:=hk.name
 have hX1:=yW (e:=e) (most:=most) hop
 have hX2:=Mu (e:=e) (most:=most) hop
 unfold eJ
 obtain ⟨L,hL⟩:=nm_ e.kids.length
 obtain ⟨o,ho⟩:=nm_ e.op
 obtain ⟨n,hn⟩:=nm_ e.n
 obtain ⟨nm,hnm⟩:=nm_ e.name
 rw [hL,ho,hn,hnm] at hX1 hX2 ⊢
 rw [hnm] at hnl
 rw [ho] at hop
 clear hL ho hn hnm hk
 have HX1:=hid hX1
 have HX2:=hid hX2
 have HN:=hid (fun W=>Qw nm W (by omega))
 have HT:=hid hT
 clear hX1 hX2 hT
 by_cases h0:0<L
 ·have h0z:(0:Int)<L:=by omega
  have H:=hid (HX1.out (.inl h0))
  clear h0
  rcases hop with rfl | rfl
  all_goals
   go_enter func158,ntmps158
   go_wp2_with fail
   go_ret
   exact ⟨bU H.out.symm,(J_ _ _).alloc le_ _⟩
 ·obtain rfl:L=0:=by omega
  clear h0
  rcases hop with rfl | rfl
  ·by_cases hn:n<0
   ·have H:=hid (HX1.out (.inr (.inl ⟨rfl,.inl hn⟩)))
    go_enter func158,ntmps158
    go_wp2_with fail
    go_ret
    exact ⟨bU H.out.symm,(J_ _ _).alloc le_ _⟩
   ·have hn':0≤n:=by omega
    by_cases hm:nm.size=0
    ·have he:=hH hm
     have H:=hid (HX2.out (by omega))
     clear hn hm
     go_enter func158,ntmps158
     go_wp2_with fail
     go_ret
     exact ⟨bU H.out.symm,(J_ _ _).alloc le_ _⟩
    ·have he:=iX hm
     have H:=hid (HX1.out (.inr (.inl ⟨rfl,.inr hm⟩)))
     clear hn hm
     go_enter func158,ntmps158
     go_wp2_with fail
     go_ret
     exact ⟨bU H.out.symm,(J_ _ _).alloc le_ _⟩
  ·by_cases hn:n=0
   ·subst hn
    have hbz:∀W,(w.alloc W).heap.size=(w.alloc W).heap.size:=fun _=>rfl
    cases hB:gI nm
    ·have H:=hid (HX1.out (.inr (.inr ⟨rfl,.inr hB⟩)))
     rw [hB] at HN
     clear hB
     go_enter func158,ntmps158
     go_wp2_with (go_at_call 167;refine (HN.out _ (HT.out.alloc _)).mono ?_;rintro e w1 ⟨rfl,hb1⟩)
     go_ret
     exact ⟨bU H.out.symm,((J_ _ _).alloc le_ _).trans (hb1.mono (by simp))⟩
    ·have H:=hid (HX2.out (by simp [hB]))
     rw [hB] at HN
     clear hB
     go_enter func158,ntmps158
     go_wp2_with (go_at_call 167;refine (HN.out _ (HT.out.alloc _)).mono ?_;rintro e w1 ⟨rfl,hb1⟩)
     go_ret
     exact ⟨bU H.out.symm,((J_ _ _).alloc le_ _).trans (hb1.mono (by simp))⟩
   ·have hnb:(n != 0)=true:=by rw [bne_iff_ne];exact hn
    have H:=hid (HX1.out (.inr (.inr ⟨rfl,.inl hn⟩)))
    clear hn
    go_enter func158,ntmps158
    go_wp2_with fail
    go_ret
    exact ⟨bU H.out.symm,(J_ _ _).alloc le_ _⟩
theorem aW (h:a≠b):(a == b)=false:=A_ h
theorem kB (h:a≠b):(a != b)=true:=B_ h
theorem tK (h:a=b):(a != b)=false:=by rw [h];simp
theorem Hq (o n:Int) (nm:ByteArray) (ks:List Ex) (A:Option Addr) (c:Nat) (most:Int) (w:World) (hop:¬(o=0∨o=1)) (hbad:o<0∨16<o∨n≠0∨nm.size≠0∨ks.length≠aX o∨most<1) :
  Calls prog 158 #[.agg #[.int .i64 o,.int .i64 n,.string nm,.slice A ks.length c],.int .i64 most] w fun r w'=>r=.returned (.int .i64 (-1))∧Below w.heap.size w w':=by
 obtain ⟨P,hP⟩:∃P:Int,(aX o:Int)=P:=⟨_,rfl⟩
 have hbad:o<0∨16<o∨n≠0∨nm.size≠0∨(ks.length:Int)≠P∨most<1:=by
  rcases hbad with h | h | h | h | h | h
  ·exact .inl h
  ·exact .inr (.inl h)
  ·exact .inr (.inr (.inl h))
  ·exact .inr (.inr (.inr (.inl h)))
  ·exact .inr (.inr (.inr (.inr (.inl (by omega)))))
  ·exact .inr (.inr (.inr (.inr (.inr h))))
 have hc:o=2∧P=1∨o=3∧P=1∨((o == 0)=false∧(o == 1)=false∧(o == 2)=false∧(o == 3)=false∧P=2):=by
  unfold aX at hP
  by_cases h2:o=2
  ·subst h2;exact .inl ⟨rfl,by simp at hP;omega⟩
  ·by_cases h3:o=3
   ·subst h3;exact .inr (.inl ⟨rfl,by simp at hP;omega⟩)
   ·exact .inr (.inr ⟨aW (fun e=>hop (.inl e)),aW (fun e=>hop (.inr e)),aW h2,aW h3,by rw [K_ (by omega)] at hP;omega⟩)
 clear hP hop
 have hwhy:(o<0)∨(0≤o∧16<o)∨(0≤o∧o≤16∧(n != 0)=true)∨(0≤o∧o≤16∧(n != 0)=false∧nm.toList.isEmpty=false) ∨
   (0≤o∧o≤16∧(n != 0)=false∧nm.toList.isEmpty=true∧((ks.length:Int) != P)=true)∨(0≤o∧o≤16∧(n != 0)=false∧nm.toList.isEmpty=true∧((ks.length:Int) != P)=false∧most<1):=by
  by_cases h1:o<0
  ·exact .inl h1
  ·by_cases h2:16<o
   ·exact .inr (.inl ⟨by omega,h2⟩)
   ·by_cases h3:n=0
    ·by_cases h4:nm.size=0
     ·by_cases h5:(ks.length:Int)=P
      ·exact .inr (.inr (.inr (.inr (.inr ⟨by omega,by omega,tK h3,hH h4,tK h5,by omega⟩))))
      ·exact .inr (.inr (.inr (.inr (.inl ⟨by omega,by omega,tK h3,hH h4,kB h5⟩))))
     ·exact .inr (.inr (.inr (.inl ⟨by omega,by omega,tK h3,iX h4⟩)))
    ·exact .inr (.inr (.inl ⟨by omega,by omega,kB h3⟩))
 clear hbad
 rcases hc with ⟨rfl,rfl⟩ | ⟨rfl,rfl⟩ | ⟨b0,b1,b2,b3,rfl⟩
 all_goals
  rcases hwhy with h1 | ⟨h1,h2⟩ | ⟨h1,h2,h3⟩ | ⟨h1,h2,h3,h4⟩ | ⟨h1,h2,h3,h4,h5⟩ | ⟨h1,h2,h3,h4,h5,h6⟩
  all_goals first | (exfalso;omega) | skip
  all_goals
   go_enter func158,ntmps158
   go_wp2_with fail
   go_ret
   exact ⟨rfl,(J_ _ _).alloc le_ _⟩
def qM (w:World) (g:Nat) (A:Option Addr) (n c:Nat) (first:Int) (s:St):Prop:=
 w.heap[g]? = some (.cells #[.slice A n c,.int .i64 first,.int .i64 s.at_,.int .i64 s.bad] 161 (0,0))
theorem qM.same {w w' g A n c first s} (h:qM w g A n c first s) (hb:Below w.heap.size w w'):qM w' g A n c first s:=bp_ hb h
abbrev nO (t:bQ):Value:=.agg #[.int .i64 t.kind,.string t.text,.int .i64 t.n,.int .i64 t.at_]
theorem lH {M w ad ks} (h:cN.Row M w (some ad) ks) (k) (hk:k<ks.length) :
  w.cell? (ad.add (k*4))=some (.int .i64 ks[k].kind)∧w.cell? ⟨(ad.add (k*4)).block,(ad.add (k*4)).off+1,none⟩=some (.string ks[k].text) ∧
   w.cell? ⟨(ad.add (k*4)).block,(ad.add (k*4)).off+2,none⟩=some (.int .i64 ks[k].n)∧w.cell? ⟨(ad.add (k*4)).block,(ad.add (k*4)).off+3,none⟩=some (.int .i64 ks[k].at_):=by
 obtain ⟨ad',e,h0,h1,h2,h3,_⟩:=Yp h k hk
 injection e with e
 subst e
 exact ⟨h0,h1,h2,h3⟩
theorem bT (l g A c first s w) (hb:qM w g A l.length c first s) (hr:cN.Row [g] w A l) (hlc:l.length≤c) :
  Calls prog 162 #[.pointer (some ⟨g,0,none⟩)] w fun r w'=>r=.returned (nO (aE l s.at_))∧Below w.heap.size w w':=by
 obtain ⟨at_,bad⟩:=s
 have hc0:w.cell? ⟨g,0,none⟩=some (.slice A l.length c):=(aB hb 0).trans rfl
 have hc2:w.cell? ⟨g,2,none⟩=some (.int .i64 at_):=(aB hb 2).trans rfl
 have hg:=aC hb
 have HR:=hid hr
 have hm:=hr.1
 clear hr hb
 by_cases h1:at_<0
 ·have HX:Hid (aE l at_=cB):=by unfold aE;rw [M_ (.inl h1)];exact rfl
  have h1b:decide (at_<0)=true:=W_ h1
  go_enter func162,ntmps162
  go_wp2_with fail
  go_quiet (fail)
  go_wp2_with fail
  refine L_ (v:=.agg #[.int .i64 0,.string ⟨#[]⟩,.int .i64 0,.int .i64 0]) (by simp [results,results162,go_sem]) rfl ⟨by rw [HX.out];rfl,?_⟩
  exact aH (dM ((J_ _ _).alloc le_ _) _) le_ _ _ _ _
 ·by_cases h2:(l.length:Int)≤at_
  ·have HX:Hid (aE l at_=cB):=by unfold aE;rw [M_ (.inr h2)];exact rfl
   have h1b:decide (at_<0)=false:=V_ h1
   have h2b:decide ((l.length:Int)≤at_)=true:=W_ h2
   go_enter func162,ntmps162
   go_wp2_with fail
   go_quiet (fail)
   go_wp2_with fail
   refine L_ (v:=.agg #[.int .i64 0,.string ⟨#[]⟩,.int .i64 0,.int .i64 0]) (by simp [results,results162,go_sem]) rfl ⟨by rw [HX.out];rfl,?_⟩
   exact aH (dM ((J_ _ _).alloc le_ _) _) le_ _ _ _ _
  ·obtain ⟨k,rfl⟩:=r_ (show 0≤at_ by omega)
   have hk:k<l.length:=by omega
   obtain ⟨ad,rfl⟩:=mR HR.out (by omega)
   obtain ⟨x0,x1,x2,x3⟩:=lH HR.out k hk
   have hlt:=N_ w _ x0
   have HX:Hid (aE l (k:Int)=l[k]):=by
    unfold aE
    rw [K_ (by omega),Int.toNat_natCast,S_,R_ hk]
    exact rfl
   have h1b:decide ((k:Int)<0)=false:=V_ h1
   have h2b:decide (l.length≤k)=false:=V_ (by omega)
   have h2c:decide ((l.length:Int)≤(k:Int))=false:=V_ h2
   have hkz:(k:Int)<l.length:=by omega
   have hk0:(0:Int)≤k:=by omega
   have hlcz:(l.length:Int)≤c:=by omega
   clear h1 h2
   go_enter func162,ntmps162
   go_wp2_with fail
   go_quiet (fail)
   go_wp2_with fail
   obtain ⟨w1,hw1⟩:=nm_ ((w.alloc (.cells #[.int .i64 0,.string ⟨#[]⟩,.int .i64 0,.int .i64 0] 60 (0,0))).drewN nq)
   have hb1:Below w.heap.size w w1:=hw1▸dM ((J_ _ _).alloc le_ _) _
   have hbb:w1.heap[w.heap.size]? = some (.cells #[.int .i64 0,.string ⟨#[]⟩,.int .i64 0,.int .i64 0] 60 (0,0)):=by
    rw [←hw1];exact I_ _ _
   rw [hw1]
   have q0:=(hb1.cell hg).trans hc0
   have q2:=(hb1.cell hg).trans hc2
   have y0:=(hb1.cell hlt).trans x0
   have y1:=(hb1.cell (N_ w _ x1)).trans x1
   have y2:=(hb1.cell (N_ w _ x2)).trans x2
   have y3:=(hb1.cell (N_ w _ x3)).trans x3
   have z0:=aB hbb 0
   have z1:=aB hbb 1
   have z2:=aB hbb 2
   have z3:=aB hbb 3
   have f0:=aD hbb 0
   have f1:=aD hbb 1
   have f2:=aD hbb 2
   have f3:=aD hbb 3
   simp only [List.getElem?_toArray,List.getElem?_cons_zero,List.getElem?_cons_succ] at z0 z1 z2 z3
   have HB:=hid hb1
   clear hb1 hbb hw1
   go_region_with (fail)
   all_goals
    go_wp2
    refine L_ (v:=nO l[k]) (by simp [results,results162,go_sem, *]) rfl ⟨by rw [HX.out],?_⟩
    exact Below.drew (aH HB.out le_ _ _ _ _)
theorem lI (g A n c first s w) (hb:qM w g A n c first s) (x) :
  Calls prog 163 #[.pointer (some ⟨g,0,none⟩),.int .i64 x] w fun r w'=>r=.returned (eJ eD none 0)∧qM w' g A n c first (dL x s)∧Same [g] w w':=by
 obtain ⟨at_,bad⟩:=s
 have hc3:w.cell? ⟨g,3,none⟩=some (.int .i64 bad):=(aB hb 3).trans rfl
 have hf3:=aD hb 3
 have hg:=aC hb
 have HB:=hid hb
 clear hb
 by_cases h0:bad=0
 ·have hbt:(bad == 0)=true:=D_ h0
  have HP:Hid (dL x ⟨at_,bad⟩=⟨at_,x⟩):=by unfold dL;rw [M_ h0];exact rfl
  go_enter func163,ntmps163
  go_wp2_with fail
  refine L_ (v:=eJ eD none 0) (by simp [results,results163,go_sem, *] <;> exact ⟨rfl,rfl,rfl,rfl⟩) rfl ⟨rfl,?_,?_⟩
  ·rw [HP.out]
   exact (((J_ _ _).alloc le_ _).block g (by simpa using hg)).trans (aZ HB.out 3 _)
  ·exact (Same.setCell (Same.refl _ _) (.inl (by simp)) _).alloc _
 ·have hbt:(bad == 0)=false:=A_ h0
  have HP:Hid (dL x ⟨at_,bad⟩=⟨at_,bad⟩):=by unfold dL;rw [K_ h0];exact rfl
  go_enter func163,ntmps163
  go_wp2_with fail
  refine L_ (v:=eJ eD none 0) (by simp [results,results163,go_sem, *] <;> exact ⟨rfl,rfl,rfl,rfl⟩) rfl ⟨rfl,?_,?_⟩
  ·rw [HP.out]
   exact (((J_ _ _).alloc le_ _).block g hg).trans HB.out
  ·exact (Same.refl _ _).alloc _
theorem cW (g A n c first s w) (hb:qM w g A n c first s) (h1:first≤s.at_) (h2:s.at_≤first+64) (h3:s.at_<9223372036854775807) (h4:-9223372036854775808≤first) :
  Calls prog 148 #[.pointer (some ⟨g,0,none⟩)] w fun r w'=>r=.returned (.bool (aT first s).1)∧qM w' g A n c first (aT first s).2∧Same [g] w w':=by
 obtain ⟨at_,bad⟩:=s
 have hc1:w.cell? ⟨g,1,none⟩=some (.int .i64 first):=(aB hb 1).trans rfl
 have hc2:w.cell? ⟨g,2,none⟩=some (.int .i64 at_):=(aB hb 2).trans rfl
 have hf2:=aD hb 2
 have hg:=aC hb
 simp only at h1 h2 h3
 have HB:=hid hb
 clear hb
 have hsub:IntKind.i64.wrap (at_ - first)=at_ - first:=IntWalk.i64_in _ (by omega)
 have hadd:IntKind.i64.wrap (at_+1)=at_+1:=IntWalk.i64_in _ (by omega)
 by_cases h0:64≤at_ - first
 ·have hbt:decide (64≤at_ - first)=true:=W_ h0
  have HP:Hid (aT first ⟨at_,bad⟩=(false,dL 2 ⟨at_,bad⟩)):=by unfold aT;rw [M_ h0];exact rfl
  go_enter func148,ntmps148
  go_wp2_with fail
  go_quiet (fail)
  go_wp2_with fail
  refine (lI g A n c first ⟨at_,bad⟩ _ (HB.out.same (dM (J_ _ _) _)) 2).mono ?_
  rintro e w2 ⟨rfl,hb2,hs2⟩
  go_wp2_with fail
  refine L_ (v:=.bool false) (by simp [results,results148,go_sem, *]) rfl ⟨by rw [HP.out],?_,?_⟩
  ·rw [HP.out];exact hb2
  ·exact ((Same.refl [g] w).drewN nq).trans hs2 (fun _ h=>.inl h)
 ·have hbt:decide (64≤at_ - first)=false:=V_ h0
  have HP:Hid (aT first ⟨at_,bad⟩=(true,⟨at_+1,bad⟩)):=by unfold aT;rw [K_ h0];exact rfl
  go_enter func148,ntmps148
  go_wp2_with fail
  go_quiet (fail)
  go_wp2_with fail
  refine L_ (v:=.bool true) (by simp [results,results148,go_sem, *]) rfl ⟨by rw [HP.out],?_,?_⟩
  ·rw [HP.out];exact aZ (HB.out.same (dM (J_ _ _) _)) 2 _
  ·exact Same.setCell ((Same.refl [g] w).drewN nq) (.inl (by simp)) _
abbrev BL:Option Int→Value
 | some op=>.tuple #[.int .i64 op,.bool true]
 | none=>.tuple #[.int .i64 0,.bool false]
theorem Rc (op w):Calls prog 159 #[.int .i64 op] w fun e w'=>e=.returned (.string (cZ op))∧w'=w:=
 (vV op w).mono fun _ _ h=>⟨h.1,h.2.symm⟩
theorem eL (l g A c first s w) (hb:qM w g A l.length c first s) (hr:cN.Row [g] w A l) (hlc:l.length≤c) (a b) (hab:a≤b+1) (hb1:b≤1000) (ha1:0≤a) :
  Calls prog 147 #[.pointer (some ⟨g,0,none⟩),.int .i64 a,.int .i64 b] w fun r w'=>r=.returned (BL (iR l a b s))∧Below w.heap.size w w':=by
 have HTOK:=hid (bT l g A c first s w hb hr hlc)
 obtain ⟨at_,bad⟩:=s
 obtain ⟨ANS,hANS⟩:=nm_ (iR l a b ⟨at_,bad⟩)
 have HANS:=hid hANS
 have hc3:w.cell? ⟨g,3,none⟩=some (.int .i64 bad):=(aB hb 3).trans rfl
 have HC3:=hid hc3
 rw [hANS]
 obtain ⟨t,ht⟩:=nm_ (aE l at_)
 unfold iR at HANS
 simp only [ht] at HANS HTOK
 clear hr hb hANS hc3
 go_enter func147,ntmps147
 go_wp2_with fail
 refine HTOK.out.mono ?_
 rintro e w1 ⟨rfl,hbl⟩
 have HBL:=hid hbl
 clear hbl
 go_wp2_with fail
 obtain ⟨w2,hw2,_,hb2⟩:=alo_ w1 (.cells #[.int .i64 t.kind,.string t.text,.int .i64 t.n,.int .i64 t.at_] 60 (0,0))
 have HB2:Hid (Below w.heap.size w w2):=hid (hw2▸HBL.out.alloc (HBL.out.size) _)
 rw [hw2]
 have hk0:w2.cell? ⟨w1.heap.size,0,none⟩=some (.int .i64 t.kind):=(aB hb2 0).trans rfl
 have hk1:w2.cell? ⟨w1.heap.size,1,none⟩=some (.string t.text):=(aB hb2 1).trans rfl
 have hr3:w2.cell? ⟨g,3,none⟩=some (.int .i64 bad):=(HB2.out.cell (p:=⟨g,3,none⟩) (N_ w _ HC3.out)).trans HC3.out
 have HK0:=hid hk0
 have HK1:=hid hk1
 have HR3:=hid hr3
 obtain ⟨B,hB⟩:=nm_ w1.heap.size
 rw [hB] at HK0 HK1 ⊢
 clear hk0 hk1 hr3 hb2 hw2 hB
 go_loopg [9] ((b+2 - a).toNat+1) (fun k s9 w'=>∃op:Int,s9=.int .i64 op∧0≤op∧op≤b+1∧(b+1 - op).toNat<k∧Hh t bad (b - op+1).toNat op=ANS∧Below w2.heap.size w2 w')
 case atStart=>exact ⟨a,rfl,ha1,hab,by omega,HANS.out,J_ _ _⟩
 case round=>
  obtain ⟨op,rfl,ho0,hob,hok,hans,hbl⟩:=hrel
  obtain ⟨gk,rfl⟩:=pk_ gk 1 (by omega)
  have HBW:=hid hbl
  have HA:=hid hans
  have k0:wr.cell? ⟨B,0,none⟩=some (.int .i64 t.kind):=(hbl.cell (p:=⟨B,0,none⟩) (N_ w2 _ HK0.out)).trans HK0.out
  have k1:wr.cell? ⟨B,1,none⟩=some (.string t.text):=(hbl.cell (p:=⟨B,1,none⟩) (N_ w2 _ HK1.out)).trans HK1.out
  have r3:wr.cell? ⟨g,3,none⟩=some (.int .i64 bad):=(hbl.cell (p:=⟨g,3,none⟩) (N_ w2 _ HR3.out)).trans HR3.out
  clear hans hbl
  have hadd:IntKind.i64.wrap (op+1)=op+1:=IntWalk.i64_in _ (by omega)
  by_cases hle:op≤b
  ·have hleb:decide (op≤b)=true:=W_ hle
   obtain ⟨n,hn⟩:∃n,(b - op+1).toNat=n+1:=⟨(b - op).toNat,by omega⟩
   have hn':(b - (op+1)+1).toNat=n:=by omega
   have h:=HA.out
   rw [hn,Hh] at h
   by_cases hk:t.kind=4
   ·have hkb:(t.kind == 4)=true:=D_ hk
    by_cases hbad:bad=0
    ·have hbb:(bad == 0)=true:=D_ hbad
     rw [M_ ⟨hk,hbad⟩] at h
     obtain ⟨q,hq⟩:=nm_ (dK (cZ op) t.text)
     have hq':((cZ op).toList == t.text.toList)=q:=by rw [Lib.toList_data,Lib.toList_data];exact hq
     rw [hq] at h
     have HE:=hid h
     clear h hk hbad hle hq
     cases q
     ·go_wp2_with fail
      go_quiet ((go_at_call 159;exact Calls.quiet_of_same (Rc op _)))
      go_wp2_with fail
      go_roundg gk
      case measure=>omega
      case rel=>
       refine ⟨op+1,rfl,by omega,by omega,by omega,?_,dM HBW.out _⟩
       rw [hn']
       simpa using HE.out
     ·go_wp2_with fail
      go_quiet ((go_at_call 159;exact Calls.quiet_of_same (Rc op _)))
      go_wp2_with fail
      refine L_ (results_tmp2 rfl _ _ _) rfl ⟨?_,HB2.out.trans (dM (HBW.out.mono HB2.out.size) _)⟩
      have h:some op=ANS:=by simpa using HE.out
      rw [←h]
      exact rfl
    ·have hbb:(bad == 0)=false:=A_ hbad
     rw [K_ (fun h=>hbad h.2)] at h
     have HE:=hid h
     clear h hle
     go_wp2_with fail
     refine L_ (results_tmp2 rfl _ _ _) rfl ⟨?_,HB2.out.trans (HBW.out.mono HB2.out.size)⟩
     rw [←HE.out];exact rfl
   ·have hkb:(t.kind == 4)=false:=A_ hk
    rw [K_ (fun h=>hk h.1)] at h
    have HE:=hid h
    clear h hle
    go_wp2_with fail
    refine L_ (results_tmp2 rfl _ _ _) rfl ⟨?_,HB2.out.trans (HBW.out.mono HB2.out.size)⟩
    rw [←HE.out];exact rfl
  ·have hleb:decide (op≤b)=false:=V_ hle
   have h:=HA.out
   rw [show (b - op+1).toNat=0 by omega,Hh] at h
   have HE:=hid h
   clear h
   go_wp2_with fail
   refine L_ (results_tmp2 rfl _ _ _) rfl ⟨?_,HB2.out.trans (HBW.out.mono HB2.out.size)⟩
   rw [←HE.out];exact rfl
end Go.Proofs.YtgcfjkfipkfijaaGreatDoor
