/- Part 5 of the proof of rtrees_card; no conditions. -/
import Derived.Test.YtgcfjkfipkfijaaGreatDoorTr01
import Derived.Test.YtgcfjkfipkfijaaGreatDoorTr04
set_option maxRecDepth 100000
set_option maxHeartbeats 4000000
namespace Go.Proofs.YtgcfjkfipkfijaaGreatDoor
open Go Go.RowKit Go.Lib _root_.Go.Proofs.Tryz
variable {k : Nat} {t : TypeId} {w : World}
def cR (P:Nat→Prop) (w:World) (e:Ex) (A:Option Addr) (c:Nat):Prop:=e.kids.length≤c∧∀M:List Nat,(∀k,k∈M→P k)→gU.Row M w A e.kids
theorem cR.keep {P w w' e A c M} (h:cR P w e A c) (hs:Same M w w') (hM:∀k,k∈M→P k):cR P w' e A c:=
 ⟨h.1,fun M' hM'=>by
  have h1:=h.2 (M++M') (fun k hk=>(G_ hk).elim (hM k) (hM' k))
  exact (h1.keep (hs.mono (fun x hx=>List.mem_append.2 (.inl hx)))).less (fun k hk=>.inl (List.mem_append.2 (.inr hk)))⟩
theorem cR.below {P w w' e A c} (h:cR P w e A c) (hs:Below w.heap.size w w'):cR P w' e A c:=h.keep (M:=[]) (Same.of_below hs) (fun _ hk=>by simp at hk)
theorem cR.more {P Q w e A c} (h:cR P w e A c) (hq:∀k,Q k→P k∨w.heap.size≤k):cR Q w e A c:=by
 classical
 exact ⟨h.1,fun M hM=>(h.2 (M.filter (fun k=>decide (P k))) (fun k hk=>by simpa using (List.mem_filter.1 hk).2)).less (fun k hk=>(hq k (hM k hk)).elim (fun hp=>.inl (List.mem_filter.2 ⟨hk,by simpa using hp⟩)) .inr)⟩
theorem cR.leaf {P w e} (h:e.kids=[]):cR P w e none 0:=⟨by rw [h];exact H_ _,fun M _=>by rw [h];exact aN.Row.nil _ _ _ _⟩
theorem cR.two {P k w e r A B c d t} (hk:¬P k) (h1:cR P w e A c) (h2:cR P w r B d) (hb:w.heap[k]? = some (.cells #[.int .i64 e.op,.int .i64 e.n,.string e.name,.slice A e.kids.length c,.int .i64 r.op,.int .i64 r.n,.string r.name,.slice B r.kids.length d] t (0,0))) (op) :
  cR P w (eY op e r) (some ⟨k,0,none⟩) 2:=
 ⟨H_ _,fun M hM=>⟨by show 2≤_;decide,fun _=>⟨⟨k,0,none⟩,rfl,fun hc=>hk (hM _ hc),aC hb,fun i hi=>by
  match i,hi with
  | 0,_=>exact ⟨_,vR h1.1 (h1.2 M hM),fun j u hu=>by
    match j,hu with
    | 0,hu=>exact (aB hb 0).trans hu
    | 1,hu=>exact (aB hb 1).trans hu
    | 2,hu=>exact (aB hb 2).trans hu
    | 3,hu=>exact (aB hb 3).trans hu⟩
  | 1,_=>exact ⟨_,vR h2.1 (h2.2 M hM),fun j u hu=>by
    match j,hu with
    | 0,hu=>exact (aB hb 4).trans hu
    | 1,hu=>exact (aB hb 5).trans hu
    | 2,hu=>exact (aB hb 6).trans hu
    | 3,hu=>exact (aB hb 7).trans hu⟩⟩⟩⟩
theorem cR.one {P k w e A c t} (hk:¬P k) (h1:cR P w e A c) (hb:w.heap[k]? = some (.cells #[.int .i64 e.op,.int .i64 e.n,.string e.name,.slice A e.kids.length c] t (0,0))) (op) :
  cR P w (fR op e) (some ⟨k,0,none⟩) 1:=
 ⟨H_ _,fun M hM=>⟨by show 1≤_;decide,fun _=>⟨⟨k,0,none⟩,rfl,fun hc=>hk (hM _ hc),aC hb,fun i hi=>by
  match i,hi with
  | 0,_=>exact ⟨_,vR h1.1 (h1.2 M hM),fun j u hu=>by
    match j,hu with
    | 0,hu=>exact (aB hb 0).trans hu
    | 1,hu=>exact (aB hb 1).trans hu
    | 2,hu=>exact (aB hb 2).trans hu
    | 3,hu=>exact (aB hb 3).trans hu⟩⟩⟩⟩
def eO (g:Nat) (A:Option Addr) (n c:Nat) (first:Int) (p:Ex × St) (w:World) (e:Ending) (w':World):Prop:=
 ∃B d,e=.returned (eJ p.1 B d)∧cR (fun k=>k<w.heap.size) w' p.1 B d∧qM w' g A n c first p.2∧Same [g] w w'
def cG (l:List bQ) (g:Nat) (A:Option Addr) (c:Nat) (first lo:Int) (F:Nat) (P:St→Ex × St):Prop:=
 ∀s w,qM w g A l.length c first s→cN.Row [g] w A l→first≤s.at_→lo≤s.at_→s.at_≤first+64 →
  Calls prog F #[.pointer (some ⟨g,0,none⟩)] w (eO g A l.length c first (P s) w)
def fP (first:Int) (P:St→Ex × St):Prop:=∀s,s.at_≤first+64→s.at_≤(P s).2.at_∧(P s).2.at_≤first+64
theorem Dm:∀(t:bQ) (bad:Int) (n:Nat) (op x:Int),Hh t bad n op=some x→t.kind=4∧bad=0
 | _,_,0,_,_,h=>by simp [Hh] at h
 | t,bad,n+1,op,x,h=>by
  rw [Hh] at h
  by_cases hk:t.kind=4∧bad=0
  ·exact hk
  ·rw [K_ hk] at h;cases h
theorem fS {l i} (h:(aE l i).kind≠0):0≤i∧i<l.length:=by
 unfold aE at h
 by_cases hc:i<0∨(l.length:Int)≤i
 ·rw [M_ hc] at h;exact absurd rfl h
 ·omega
theorem Hr {l a b s x} (h:iR l a b s=some x):s.at_<l.length:=by
 have:=(Dm _ _ _ _ _ h).1
 exact (fS (by rw [this];decide)).2
theorem jO (first s):((aT first s).1=true→(aT first s).2.at_=s.at_+1∧s.at_<first+64)∧((aT first s).1=false→(aT first s).2.at_=s.at_):=by
 unfold aT dL
 by_cases h:64≤s.at_ - first
 ·rw [M_ h]
  refine ⟨fun h=>by simp at h,fun _=>?_⟩
  by_cases h:s.bad=0
  ·simp [h]
  ·simp [h]
 ·rw [K_ h]
  exact ⟨fun _=>⟨rfl,by omega⟩,fun h=>by simp at h⟩
theorem aK {v0 v1 v2 v3:Value} (h:w.heap[k]? = some (.cells #[v0,v1,v2,v3] t (0,0))) :
  (w.cell? ⟨k,0,none⟩=some v0∧w.cell? ⟨k,1,none⟩=some v1∧w.cell? ⟨k,2,none⟩=some v2∧w.cell? ⟨k,3,none⟩=some v3) ∧
    w.frozen? ⟨k,0,none⟩=false∧w.frozen? ⟨k,1,none⟩=false∧w.frozen? ⟨k,2,none⟩=false∧w.frozen? ⟨k,3,none⟩=false:=
 ⟨⟨aB h 0,aB h 1,aB h 2,aB h 3⟩,aD h 0,aD h 1,aD h 2,aD h 3⟩
theorem vY {v0 v1 v2 v3:Value} {fr:Nat × Nat} (h:w.heap[k]? = some (.cells #[v0,v1,v2,v3] t fr)) (a b c d) :
  ((((w.setCell ⟨k,0,none⟩ a).setCell ⟨k,1,none⟩ b).setCell ⟨k,2,none⟩ c).setCell ⟨k,3,none⟩ d).heap[k]? = some (.cells #[a,b,c,d] t fr):=
 aZ (aZ (aZ (aZ h 0 a) 1 b) 2 c) 3 d
theorem bS (w k a b c d):Same [k] w ((((w.setCell ⟨k,0,none⟩ a).setCell ⟨k,1,none⟩ b).setCell ⟨k,2,none⟩ c).setCell ⟨k,3,none⟩ d):=
 ((((Same.refl [k] w).setCell (.inl (by simp)) _).setCell (.inl (by simp)) _).setCell (.inl (by simp)) _).setCell (.inl (by simp)) _
theorem dV {P g n c d K A B first e s w W} (hP:∀k,k<w.heap.size→P k) (hPK:P K) (hx:cR P W e B d) (hrd:qM W g A n c first s) (hs:Same [g] w W) (hK:w.heap.size≤K) (hg:g<w.heap.size) (v0 v1 v2 v3) :
  eO g A n c first (e,s) w (.returned (eJ e B d)) ((((W.setCell ⟨K,0,none⟩ v0).setCell ⟨K,1,none⟩ v1).setCell ⟨K,2,none⟩ v2).setCell ⟨K,3,none⟩ v3):=by
 have h4:=bS W K v0 v1 v2 v3
 exact ⟨B,d,rfl,(hx.keep h4 (fun k hk=>by simp at hk;exact hk▸hPK)).more (fun k hk=>.inl (hP k hk)),h4.heap (by simp;omega) hrd,hs.trans h4 (fun x hx=>by simp at hx;exact .inr (hx▸hK))⟩
theorem vZ (op A n c w) :
  Calls prog 149 #[.int .i64 op,.slice A n c] w fun r w'=>r=.returned (.agg #[.int .i64 op,.int .i64 0,.string ⟨#[]⟩,.slice A n c])∧Below w.heap.size w w':=by
 go_enter func149,ntmps149
 go_wp2_with fail
 refine L_ (v:=.agg #[.int .i64 op,.int .i64 0,.string ⟨#[]⟩,.slice A n c]) (by simp [results,results149,go_sem, *]) rfl ⟨rfl,?_⟩
 exact (J_ _ _).alloc le_ _
theorem vE (l g A c first lo a b F below) (hab:a≤b+1) (hb1:b≤1000) (ha1:0≤a) (hF:cG l g A c first lo F below) (hG:fP first below) (hlc:l.length≤c) (hf0:-9223372036854775808≤first) (eg:∀args w,(callFunc F args).run prog w=.ok (.enter F args) w) (s w) (hb:qM w g A l.length c first s) (hr:cN.Row [g] w A l) (h1:first≤s.at_) (h2:lo≤s.at_) (h3:s.at_≤first+64) :
  Calls prog 130 #[.pointer (some ⟨g,0,none⟩),.int .i64 a,.int .i64 b,.func (.func F) #[.pointer (some ⟨g,0,none⟩)] #[]] w (eO g A l.length c first (iI l first a b below s) w):=by
 have HB:=hid hb
 have HR:=hid hr
 have HF:=hid hF
 have HG:=hid hG
 have hg:=aC hb
 have H1:=hid h1
 have H2:=hid h2
 have H3:=hid h3
 obtain ⟨ANS,hANS⟩:=nm_ (iI l first a b below s)
 rw [hANS]
 have HANS:=hid hANS
 clear hb hr hF hG h1 h2 h3 hANS
 go_enter func130,ntmps130
 go_wp2_with fail
 have hb0:Below w.heap.size w (w.alloc (.cells #[.int .i64 0,.int .i64 0,.string ⟨#[]⟩,.slice none 0 0] 41 (0,0))):=(J_ _ _).alloc le_ _
 obtain ⟨⟨e0,s0⟩,hp⟩:∃p,below s=p:=⟨_,rfl⟩
 refine (HF.out s _ (HB.out.same hb0) (HR.out.keep (Same.of_below hb0)) H1.out H2.out H3.out).mono ?_
 rw [hp]
 rintro e w1 ⟨B,d,rfl,hx,hrd,hs⟩
 have hz:w1.heap[w.heap.size]? = some (.cells #[.int .i64 0,.int .i64 0,.string ⟨#[]⟩,.slice none 0 0] 41 (0,0)):=
  hs.heap (by simp;omega) (I_ _ _)
 have hs1:Same [g] w w1:=(Same.of_below hb0).trans hs (fun _ h=>.inl h)
 have hg1:=HG.out s H3.out
 rw [iI] at HANS
 simp only at hx hrd
 simp only [hp] at hg1 HANS
 have hle1:w.heap.size<w1.heap.size:=aC hz
 have HX:=hid hx
 have HRD:=hid hrd
 have HS1:=hid hs1
 have HZ:=hid hz
 have HG1:=hid hg1
 clear hx hrd hs1 hz hg1 hs hb0 hp
 go_wp2_with fail
 obtain ⟨w2,hw2,hb2,hz2⟩:=alo_ w1 (.cells #[.int .i64 e0.op,.int .i64 e0.n,.string e0.name,.slice B e0.kids.length d] 41 (0,0))
 rw [hw2]
 have hx2:cR (fun k=>k≤w.heap.size∨k=w1.heap.size) w2 e0 B d:=
  ((HX.out.more (Q:=fun k=>k≤w.heap.size∨k=w1.heap.size) (fun k hk=>by simp;omega))).below hb2
 have hrd2:=HRD.out.same hb2
 have hs2:Same [g] w w2:=HS1.out.below_ hb2
 have hzz:=(hb2.block _ hle1).trans HZ.out
 obtain ⟨Kx,hKx⟩:=nm_ w1.heap.size
 rw [hKx] at hz2 hx2 hle1 ⊢
 have h0:first≤s0.at_∧lo≤s0.at_∧s0.at_≤first+64:=⟨k_ H1.out HG1.out.1,k_ H2.out HG1.out.1,HG1.out.2⟩
 obtain ⟨K8,hK8⟩:=nm_ w.heap.size
 rw [hK8] at hx2 hzz hle1 ⊢
 have HST:=hid (⟨hz2,hx2,hrd2,hs2,hzz,h0⟩:_∧_∧_∧_∧_∧_)
 clear hz2 hx2 hrd2 hs2 hzz h0 hb2 hw2 hKx
 go_loopg [] 67 (fun k w'=>∃n e s' B d,nL l first a b below n e s'=ANS∧n<k∧first+66 - n≤s'.at_ ∧
  w'.heap[Kx]? = some (.cells #[.int .i64 e.op,.int .i64 e.n,.string e.name,.slice B e.kids.length d] 41 (0,0)) ∧
  cR (fun k=>k≤K8∨k=Kx) w' e B d∧qM w' g A l.length c first s'∧Same [g] w w' ∧
  w'.heap[K8]? = some (.cells #[.int .i64 0,.int .i64 0,.string ⟨#[]⟩,.slice none 0 0] 41 (0,0))∧first≤s'.at_∧lo≤s'.at_∧s'.at_≤first+64)
 case atStart=>
  obtain ⟨q1,q2,q3,q4,q5,q6,q7,q8⟩:=HST.out
  exact ⟨66,e0,s0,B,d,HANS.out,by omega,by omega,q1,q2,q3,q4,q5,q6,q7,q8⟩
 case round=>
  obtain ⟨n,e,s',B',d',hans,hnk,hat,q1,q2,q3,q4,q5,hat1,q6,q7⟩:=hrel
  obtain ⟨gk,rfl⟩:=pk_ gk 1 (by omega)
  have HIS:=eL l g A c first s' wr q3 (HR.out.keep q4) hlc a b hab hb1 ha1
  obtain ⟨m,rfl⟩:=pk_ n 1 (by omega)
  rw [nL] at hans
  have Q:=hid (⟨q1,q2,q3,q4,q5,q6,q7⟩:_∧_∧_∧_∧_∧_∧_)
  have HHIS:=hid HIS
  have HA:=hid hans
  have K81:=N_ w _ ((aB HB.out 0).trans rfl)
  cases hisp:iR l a b s' with
  | none=>
   simp only [hisp] at HA HHIS
   clear HIS hans q1 q2 q3 q4 q5 q6 q7
   go_wp2_with fail
   refine HHIS.out.mono ?_
   rintro r w3 ⟨rfl,hb3⟩
   obtain ⟨⟨z0,z1,z2,z3⟩,f0,f1,f2,f3⟩:=aK ((hb3.block _ (aC Q.out.2.2.2.2.1)).trans Q.out.2.2.2.2.1)
   obtain ⟨⟨x0,x1,x2,x3⟩,_⟩:=aK ((hb3.block _ (aC Q.out.1)).trans Q.out.1)
   have HB3:=hid hb3
   clear hb3
   go_wp2_with fail
   refine L_ (v:=eJ e B' d') (by simp [results,results130,go_sem, *]) rfl ?_
   rw [←HA.out]
   exact dV (P:=fun k=>k≤K8∨k=Kx) (fun k hk=>.inl (by omega)) (.inl le_) (Q.out.2.1.below HB3.out) (Q.out.2.2.1.same HB3.out) (Q.out.2.2.2.1.below_ HB3.out) (by omega) hg _ _ _ _
  | some op=>
   simp only [hisp] at HA HHIS
   have hop:=Hr hisp
   have hmx:=HR.out.1
   have HP:=hid (jO first s')
   obtain ⟨⟨pb,sp⟩,hpp⟩:∃p,aT first s'=p:=⟨_,rfl⟩
   simp only [hpp] at HA HP
   clear HIS hans q1 q2 q3 q4 q5
   cases pb with
   | false=>
    go_wp2_with fail
    refine HHIS.out.mono ?_
    rintro r w3 ⟨rfl,hb3⟩
    have HB3:=hid hb3
    clear hb3
    go_wp2_with fail
    refine (cW g A l.length c first s' w3 (Q.out.2.2.1.same HB3.out) hat1 q7 (by omega) hf0).mono ?_
    rw [hpp]
    rintro r w4 ⟨rfl,hrd4,hs4⟩
    have hs34:Same [g] wr w4:=(Same.of_below HB3.out).trans hs4 (fun _ h=>.inl h)
    obtain ⟨⟨z0,z1,z2,z3⟩,f0,f1,f2,f3⟩:=aK (hs34.heap (by simp;omega) Q.out.2.2.2.2.1)
    obtain ⟨⟨x0,x1,x2,x3⟩,_⟩:=aK (hs34.heap (by simp;omega) Q.out.1)
    have HRD4:=hid hrd4
    have HS4:=hid hs34
    clear hrd4 hs4 hs34
    go_wp2_with fail
    refine L_ (v:=eJ e B' d') (by simp [results,results130,go_sem, *]) rfl ?_
    have h:=HA.out
    rw [M_ trivial] at h
    rw [←h]
    exact dV (P:=fun k=>k≤K8∨k=Kx) (fun k hk=>.inl (by omega)) (.inl le_) (Q.out.2.1.keep HS4.out (fun k hk=>by simp at hk;omega)) HRD4.out (Q.out.2.2.2.1.then_ HS4.out) (by omega) hg _ _ _ _
   | true=>
    obtain ⟨hsp,hlt64⟩:=HP.out.1 rfl
    obtain ⟨⟨e2,s2⟩,hp2⟩:∃p,below sp=p:=⟨_,rfl⟩
    have hg2:=HG.out sp (by omega)
    simp only [hp2] at hg2 HA
    have HA2:Hid (nL l first a b below m (eY op e e2) s2=ANS):=hid (by have h:=HA.out;simpa using h)
    go_wp2_with fail
    refine HHIS.out.mono ?_
    rintro r w3 ⟨rfl,hb3⟩
    have HB3:=hid hb3
    clear hb3
    go_wp2_with fail
    refine (cW g A l.length c first s' w3 (Q.out.2.2.1.same HB3.out) hat1 q7 (by omega) hf0).mono ?_
    rw [hpp]
    rintro r w4 ⟨rfl,hrd4,hs4⟩
    have hs34:Same [g] wr w4:=(Same.of_below HB3.out).trans hs4 (fun _ h=>.inl h)
    obtain ⟨⟨x0,x1,x2,x3⟩,f0,f1,f2,f3⟩:=aK (hs34.heap (by simp;omega) Q.out.1)
    have HX4:Hid (w4.heap[Kx]? = some (.cells #[.int .i64 e.op,.int .i64 e.n,.string e.name,.slice B' e.kids.length d'] 41 (0,0))):=hid (hs34.heap (by simp;omega) Q.out.1)
    have HZ4:=hid (hs34.heap (k:=K8) (by simp;omega) Q.out.2.2.2.2.1)
    have HE4:=hid (Q.out.2.1.keep hs34 (fun k hk=>by simp at hk;omega))
    have HS4:=hid (Q.out.2.2.2.1.then_ hs34)
    have HC:Hid (∀W,Below w4.heap.size w4 W→Calls prog F #[.pointer (some ⟨g,0,none⟩)] W (eO g A l.length c first (e2,s2) W)):=hid (fun W hW=>by
     rw [←hp2]
     exact HF.out sp W (qM.same hrd4 hW) ((HR.out.keep HS4.out).keep (Same.of_below hW)) (by omega) (by omega) (by omega))
    clear hrd4 hs4 hs34 hp2
    have hgx:g≠Kx:=by omega
    have hg8:g≠K8:=by omega
    have hx4:Kx<w4.heap.size:=aC HX4.out
    go_wp2_with fail
    go_region_with (first
     | (refine (HC.out _ (by first | exact J_ _ _ | exact (J_ _ _).drew)).mono ?_;rintro r w5 ⟨B5,d5,rfl,hx5,hrd5,hs5⟩;have y0:=hs5.cell (by simp;omega) x0;have y1:=hs5.cell (by simp;omega) x1;have y2:=hs5.cell (by simp;omega) x2;have y3:=hs5.cell (by simp;omega) x3;have hb5:=hs5.heap (by simp;omega) HX4.out;have H5:=hid (⟨hx5,hrd5,hs5,hb5⟩:_∧_∧_∧_);clear hx5 hrd5 hs5 hb5)
     | (go_at_call 149;refine (vZ op _ 2 2 _).mono ?_;rintro r w6 ⟨rfl,hb6⟩;have hK6:=(hb6.block Kx (by have:=aC H5.out.2.2.2;simp;omega)).trans ((((J_ w5.heap.size w5).alloc le_ _).block Kx (aC H5.out.2.2.2)).trans H5.out.2.2.2);have hbn:=(hb6.block w5.heap.size (by simp)).trans (I_ w5 _);obtain ⟨⟨k0,k1,k2,k3⟩,g0,g1,g2,g3⟩:=aK hK6;have H6:=hid (⟨hb6,hK6,hbn⟩:_∧_∧_);clear hb6 hK6 hbn))
    all_goals
     have hs45:Same [g] w4 w5:=by first | exact H5.out.2.2.1 | exact (Same.refl [g] w4).drew.then_ H5.out.2.2.1
     have hx5:cR (fun k=>k≤K8∨k=Kx) w5 e2 B5 d5:=H5.out.1.more (fun k hk=>.inl (show k<w4.heap.size by omega))
     have he5:=HE4.out.keep hs45 (fun k hk=>by simp at hk;omega)
     have hb56:Below w5.heap.size w5 w6:=((J_ _ _).alloc le_ _).trans (H6.out.1.mono (by simp))
     have h4:=bS w6 Kx (.int .i64 op) (.int .i64 0) (.string ⟨#[]⟩) (.slice (some ⟨w5.heap.size,0,none⟩) 2 2)
     have h45:=hs45.size
     go_wp2
     go_roundg gk
     case measure=>omega
     case rel=>
      refine ⟨m,eY op e e2,s2,some ⟨w5.heap.size,0,none⟩,2,HA2.out,by omega,by omega,vY H6.out.2.1 _ _ _ _,?_,?_,?_,?_,by omega,by omega,by omega⟩
      ·exact (cR.two (k:=w5.heap.size) (by omega) (he5.below hb56) (hx5.below hb56) H6.out.2.2 op).keep h4 (fun k hk=>by simp at hk;omega)
      ·exact h4.heap (by simp;omega) (H5.out.2.1.same hb56)
      ·exact ((HS4.out.then_ hs45).below_ hb56).trans h4 (fun x hx=>by simp at hx;omega)
      ·exact h4.heap (by simp;omega) ((hb56.block K8 (by omega)).trans (hs45.heap (by simp;omega) HZ4.out))
end Go.Proofs.YtgcfjkfipkfijaaGreatDoor
