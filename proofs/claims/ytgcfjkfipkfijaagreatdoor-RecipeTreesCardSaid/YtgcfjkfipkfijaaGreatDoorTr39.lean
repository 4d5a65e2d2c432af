/- Part 39 of the proof of rtrees_card; no conditions. -/
import Derived.Test.YtgcfjkfipkfijaaGreatDoorTr01
import Derived.Test.YtgcfjkfipkfijaaGreatDoorTr23
set_option maxRecDepth 100000
set_option maxHeartbeats 4000000
namespace Go.Proofs.YtgcfjkfipkfijaaGreatDoor
open Go Go.RowKit Go.Lib _root_.Go.Proofs.Tryz
def bE (c:UInt8):Int × List Value:=((c.toNat:Int),[.int .u8 (c.toNat:Int)])
theorem Mk:(Tryz.prog.info? 5).map (fun i=>(i.zero,i.size,i.bytes))=some (some (.int .u8 0),1,1):=by kernel_rfl
theorem Ml:∀l:List UInt8,(l.map bE).flatMap (·.2)=l.map (fun c=>Value.int .u8 (c.toNat:Int))
 | []=>rfl
 | y::ys=>by rw [List.map_cons,i_,Ml ys];rfl
theorem Ub (w):(convert 108 9 (.slice none 0 0)).run prog w=.ok (.string ⟨#[]⟩) w:=by kernel_rfl
theorem Uc {T:TypeId} {b0:Nat} {P:Nat→Prop} {w:World} {B:Option Addr} {n b:Nat} {l:List UInt8} (h:aR (aN.int .u8) T b0 P w B n b (l.map bE)):(convert 108 9 (.slice B n b)).run prog w=.ok (.string ⟨l.toArray⟩) w:=by
 have hl:=h.len
 rw [U_] at hl
 subst hl
 rcases h.own.2 with ⟨h',h0⟩ | ⟨g,cap,cur,hv,hg,hh,h1,h2,h3,h4⟩
 ·obtain rfl:l=[]:=X_ (by omega)
  injection h' with e1 e2 e3
  subst e1 e3
  exact Ub w
 ·injection hv with e1 _ e3
  subst e1 e3
  refine run_convert_bytes_back w _ _ _ ⟨g,0,none⟩ _ l tO wF tN (fun j hj=>?_)
  have hc:=h.own.cells (g:=g) rfl j (.int .u8 (l[j].toNat:Int)) (by rw [Ml,List.getElem?_map,R_ hj];rfl)
  exact hc
theorem Pu (s w) (hs:s.size≤100000) :
  Calls prog 92 #[.string s] w fun e w'=>e=.returned (.string (uL s))∧Below w.heap.size w w':=by
 have hsd:=aJ s
 go_enter func92,ntmps92
 go_wp2_with fail
 go_loopg [3,4] (s.size+1) (fun q s3 s4 wr=>∃(i:Nat) (B:Option Addr) (b:Nat),s3=.slice B i b∧s4=.int .i64 (i:Nat)∧i≤s.size∧s.size - i<q∧aR (aN.int .u8) 5 w.heap.size (fun k=>k<w.heap.size) wr B i b (((s.data.toList.take i).map low).map bE)∧Below w.heap.size w wr)
 case atStart=>exact ⟨0,none,0,rfl,rfl,h_ _,by omega,aR.nil _ _ _ _ _,J_ _ _⟩
 case round=>
  obtain ⟨i,B,b,rfl,rfl,hin,hiq,hG,hb⟩:=hrel
  obtain ⟨gk,rfl⟩:=pk_ gk 1 (by omega)
  have hi0:(0:Int)≤i:=by omega
  by_cases hlt:i<s.size
  ·have hiz:(i:Int)<s.size:=by omega
   obtain ⟨c,hc⟩:=nm_ (s[i])
   have htk:(s.data.toList.take (i+1)).map low=(s.data.toList.take i).map low++[low c]:=by
    rw [Z_ (by omega),f_,←hc]
    rfl
   have hlow:=Kv c
   have HG:=hk_ hG hb htk
   have hcl:=c.toNat_lt
   clear hG hb htk
   obtain ⟨z,hz⟩:∃z:Int,((low c).toNat:Int)=z:=⟨_,rfl⟩
   have fin:∀(g cap:Nat) (w6:World),aR (aN.int .u8) 5 w.heap.size (fun k=>k<w.heap.size) w6 (some ⟨g,0,none⟩) (i+1) cap (((s.data.toList.take i).map low).map bE++[(z,[.int .u8 z])])→Same (Value.slice B i b).ownBlock.toList wr w6 →
     aR (aN.int .u8) 5 w.heap.size (fun k=>k<w.heap.size) w6 (some ⟨g,0,none⟩) (i+1) cap (((s.data.toList.take (i+1)).map low).map bE)∧Below w.heap.size w w6:=fun g cap w6 h1 h2=>
    ⟨by rw [HG.out.2.2,f_,List.map_cons,List.map_nil];unfold bE;rw [hz];exact h1,((Same.of_below (M:=[]) HG.out.2.1).trans h2 (fun x hx=>.inr (HG.out.1.blk x (by simpa using hx)).1)).below⟩
   have HF:=hid fin
   clear fin
   by_cases h1:65≤(c.toNat:Int)∧(c.toNat:Int)≤90
   ·have hz2:z=(c.toNat:Int)+32:=by rw [←hz,hlow,M_ h1]
    obtain ⟨h1,h2⟩:=h1
    clear hlow hz
    subst hz2
    go_wp2_with (at_builtin;refine Hid.out ?_)
    refine hid ?_
    refine cL (by rfl) _ _ _ (by rfl) (.int .u8 0) 1 underlying108 Mk (by rfl) (by decide) (by rfl) HG.out.1 ((c.toNat:Int)+32) #[.int .u8 ((c.toNat:Int)+32)] _ (by rfl) (by rfl) (by simp [Value.oneCell']) (fun _ _=>rfl) (by unfold maxLen;omega) (by omega) HG.out.2.1.size ?_
    intro g2 cap w6 hG6 hS6 hg6
    have H6:=hid (HF.out g2 cap w6 hG6 hS6)
    clear hG6 hS6 hg6
    go_wp2_with fail
    go_roundg gk
    case measure=>omega
    case rel=>exact ⟨i+1,some ⟨g2,0,none⟩,cap,rfl,by go_num,by omega,by omega,H6.out.1,H6.out.2⟩
   ·have hz2:z=(c.toNat:Int):=by rw [←hz,hlow,K_ h1]
    clear hlow hz
    subst hz2
    have key:¬65≤(c.toNat:Int)∨65≤(c.toNat:Int)∧¬(c.toNat:Int)≤90:=by omega
    clear h1
    rcases key with h1 | ⟨h1,h2⟩
    all_goals
     go_wp2_with (at_builtin;refine Hid.out ?_)
     refine hid ?_
     refine cL (by rfl) _ _ _ (by rfl) (.int .u8 0) 1 underlying108 Mk (by rfl) (by decide) (by rfl) HG.out.1 (c.toNat:Int) #[.int .u8 (c.toNat:Int)] _ (by rfl) (by rfl) (by simp [Value.oneCell']) (fun _ _=>rfl) (by unfold maxLen;omega) (by omega) HG.out.2.1.size ?_
     intro g2 cap w6 hG6 hS6 hg6
     have H6:=hid (HF.out g2 cap w6 hG6 hS6)
     clear hG6 hS6 hg6
     go_wp2_with fail
     go_roundg gk
     case measure=>omega
     case rel=>exact ⟨i+1,some ⟨g2,0,none⟩,cap,rfl,by go_num,by omega,by omega,H6.out.1,H6.out.2⟩
  ·obtain rfl:i=s.size:=by omega
   have hback:=Uc hG
   have HB:=hid hb
   rw [List.take_of_length_le (by omega)] at hback
   have HBK:=hid hback
   clear hG hb hback
   have hback:=HBK.out
   go_wp2_with fail
   go_ret
   exact ⟨rfl,HB.out⟩
def pH (x:ByteArray):List ByteArray→Int→Int
 | [],_=>-1
 | y::l,i=>if y=x then i else pH x l (i+1)
theorem Gf (x):∀(l:List ByteArray) (i:Int),0≤i→(0≤pH x l i↔Dr x l=true)
 | [],i,_=>by simp [pH,Dr]
 | y::l,i,h=>by
  have:=Gf x l (i+1) (by omega)
  unfold pH
  unfold Dr at this ⊢
  rw [List.any_cons,Bool.or_eq_true,bF]
  split
  ·rename_i e;exact ⟨fun _=>.inl e,fun _=>h⟩
  ·rename_i e;exact ⟨fun h=>.inr (this.1 h),fun h=>this.2 (h.resolve_left e)⟩
theorem rN {w a ss} (h:mJ w a ss) (c x) :
  Calls prog 62 #[.slice a ss.length c,.string x] w fun e w'=>∃z:Int,e=.returned (.int .i64 z)∧(0≤z↔Dr x ss=true)∧Below w.heap.size w w':=by
 obtain ⟨ANS,hANS⟩:=nm_ (pH x ss 0)
 have hiff:=Gf x ss 0 (m_ _)
 rw [hANS] at hiff
 have H:=hk_ h hiff hANS
 have hmax:=h.1
 clear h hiff hANS
 go_enter func62,ntmps62
 go_wp2_with fail
 go_loopg [5] (ss.length+1) (fun q s5 wr=>∃i:Nat,s5=.int .i64 (i:Nat)∧i≤ss.length∧ss.length - i<q∧pH x (ss.drop i) i=ANS∧wr=w)
 case atStart=>exact ⟨0,rfl,h_ _,by omega,H.out.2.2,rfl⟩
 case round=>
  obtain ⟨i,rfl,hin,hiq,hp,rfl⟩:=hrel
  obtain ⟨gk,rfl⟩:=pk_ gk 1 (by omega)
  have hi0:(0:Int)≤i:=by omega
  by_cases hlt:i<ss.length
  ·have hiz:(i:Int)<ss.length:=by omega
   obtain ⟨b,off,rfl,hcell⟩:=H.out.1.2 (by omega)
   have c0:=hcell i hlt
   have hbl:=N_ _ _ c0
   rw [S_,R_ hlt] at c0
   simp only [Option.getD_some] at c0
   have hdr:ss.drop i=ss[i]::ss.drop (i+1):=List.drop_eq_getElem_cons hlt
   obtain ⟨y,hy⟩:=nm_ (ss[i])
   rw [hdr,pH,hy] at hp
   rw [hy] at c0
   clear hcell hdr hy
   by_cases hxy:y=x
   ·subst hxy
    rw [M_ rfl] at hp
    have HP:=hid hp
    clear hp
    go_wp2_with fail
    go_ret
    exact ⟨i,rfl,by rw [HP.out];exact H.out.2.1,J_ _ _⟩
   ·obtain ⟨t1,t3⟩:=jB hxy
    rw [K_ hxy] at hp
    have HP:=hid hp
    clear hp hxy
    go_wp2_with fail
    go_roundg gk
    case measure=>omega
    case rel=>exact ⟨i+1,by go_num,by omega,by omega,by have:=HP.out;rwa [show (i:Int)+1=((i+1:Nat):Int) by omega] at this,rfl⟩
  ·obtain rfl:i=ss.length:=by omega
   rw [List.drop_length,pH] at hp
   have HP:=hid hp
   clear hp
   go_wp2_with fail
   go_ret
   exact ⟨-1,rfl,by rw [HP.out];exact H.out.2.1,J_ _ _⟩
theorem Xq {w k t} (h:w.heap[k]? = some (.cells Vx t (0,0))):mJ w (some ⟨k,0,none⟩) eP:=
 ⟨by decide,fun _=>⟨k,0,rfl,fun j hj=>by
  have hj:j<9:=hj
  rcases (show j=0∨j=1∨j=2∨j=3∨j=4∨j=5∨j=6∨j=7∨j=8 by omega) with rfl | rfl | rfl | rfl | rfl | rfl | rfl | rfl | rfl <;> exact aB h _⟩⟩
theorem jV (t w) (hs:t.text.size≤8192) :
  Calls prog 61 #[nO t] w fun e w'=>e=.returned (.string (eE t))∧Below w.heap.size w w':=by
 obtain ⟨k,s,n,a⟩:=t
 obtain ⟨x,hx⟩:=nm_ (eE ⟨k,s,n,a⟩)
 rw [hx]
 unfold eE at hx
 simp only at hx hs
 have HF:=hid (fun W=>Pu s W (by omega))
 obtain ⟨f,hf⟩:=nm_ (uL s)
 rw [hf] at hx HF
 obtain ⟨w1,hw1,hb1,hx1,hy1⟩:=kP (w:=w) (cs:=#[.int .i64 k,.string s,.int .i64 n,.int .i64 a]) (ds:=Vx) (t:=60) (u:=9)
 have HX:=hk_ hx hx1 hy1
 have HB:=hid hb1
 have HW1:=hid hw1
 obtain ⟨x0,x1,_,_⟩:=lQ hx1
 have hlx:=aC hx1
 clear hx hf hx1 hy1 hb1 hw1
 go_enter func61,ntmps61
 go_upto_region 2 with fail
 rw [HW1.out]
 go_wp2_with fail
 refine (HF.out w1).mono ?_
 rintro e w2 ⟨rfl,hb2⟩
 have H2:=hk_ (HB.out.trans (hb2.mono HB.out.size)) ((hb2.block _ hlx).trans HX.out.2.1) ((hb2.block _ (aC HX.out.2.2)).trans HX.out.2.2)
 clear hb2 x0 x1 hlx
 obtain ⟨x0,x1,_,_⟩:=lQ H2.out.2.1
 have hlx:=aC H2.out.2.1
 by_cases hk:k=1
 ·subst hk
  go_wp2_with fail
  refine (rN (Xq H2.out.2.2) 9 f).mono ?_
  rintro e w3 ⟨z,rfl,hz,hb3⟩
  have HB3:=hid (H2.out.1.trans (hb3.mono H2.out.1.size))
  have HXX:=HX.out.1
  clear hb3 x0 x1 hlx
  by_cases hz0:0≤z
  ·rw [M_ ⟨by trivial,hz.1 hz0⟩] at HXX
   have HQ:=hid HXX
   clear hz HXX
   go_wp2_with fail
   go_ret
   exact ⟨by rw [←HQ.out];rfl,HB3.out⟩
  ·rw [K_ (fun hc=>hz0 (hz.2 hc.2))] at HXX
   have HQ:=hid HXX
   clear hz HXX
   go_wp2_with fail
   go_ret
   exact ⟨by rw [←HQ.out];rfl,HB3.out⟩
 ·have t1:=aW hk
  have HXX:=HX.out.1
  rw [K_ (fun hc=>hk hc.1)] at HXX
  have HQ:=hid HXX
  clear HXX hk
  go_wp2_with fail
  go_ret
  exact ⟨by rw [←HQ.out];rfl,H2.out.1⟩
abbrev RT:=Value × Value × Value
def Cv (w:World) (g:Nat) (A:Option Addr) (n c:Nat) (s:RS) (t:RT):Prop:=
 w.heap[g]? = some (.cells #[.slice A n c,.int .i64 s.at_,.int .i64 s.bad,t.1,t.2.1,t.2.2] 67 (0,0))
structure vO (l:List bQ) (g:Nat) (A:Option Addr) (c:Nat) (w:World) (s:RS) (t:RT):Prop where
 rd:Cv w g A l.length c s t
 row:aO cN (fun k=>g≤k) w A c l
 inr:iY l s
theorem iQ {w:World} {k:Nat} {v0 v1 v2 v3 v4 v5:Value} {t:TypeId} (h:w.heap[k]? = some (.cells #[v0,v1,v2,v3,v4,v5] t (0,0))) :
  (w.cell? ⟨k,0,none⟩=some v0∧w.cell? ⟨k,1,none⟩=some v1∧w.cell? ⟨k,2,none⟩=some v2∧w.cell? ⟨k,3,none⟩=some v3∧w.cell? ⟨k,4,none⟩=some v4∧w.cell? ⟨k,5,none⟩=some v5) ∧
  (w.frozen? ⟨k,1,none⟩=false∧w.frozen? ⟨k,2,none⟩=false∧w.frozen? ⟨k,4,none⟩=false∧w.frozen? ⟨k,5,none⟩=false):=
 ⟨⟨aB h 0,aB h 1,aB h 2,aB h 3,aB h 4,aB h 5⟩,Lib.frozen_of_heap h 1,Lib.frozen_of_heap h 2,Lib.frozen_of_heap h 4,Lib.frozen_of_heap h 5⟩
section
variable {l : List bQ} {g c : Nat} {A : Option Addr} {s s' : RS} {w w' : World} {t t' : RT}
theorem vO.lt (h:vO l g A c w s t):g<w.heap.size:=aC h.rd
theorem vO.step (h:vO l g A c w s t) (hb:Below w.heap.size w w'):vO l g A c w' s t:=⟨(hb.block g h.lt).trans h.rd,h.row.below hb,h.inr⟩
theorem vO.next {M} (h:vO l g A c w s t) (hr:Cv w' g A l.length c s' t') (hs:Same M w w') (hM:∀k,k∈M→g≤k) (hi:iY l s'):vO l g A c w' s' t':=⟨hr,h.row.keep hs hM,hi⟩
abbrev Ud (g:Nat) (A:Option Addr) (n c:Nat) (v:Value) (s':RS) (t:RT) (w:World) (r:Ending) (w':World):Prop:=r=.returned v∧Cv w' g A n c s' t∧Same [g] w w'
def eC (l:List bQ) (s:RS):bQ:=if s.bad=0 then aE l s.at_ else cB
theorem gE (h:vO l g A c w s t):Calls prog 60 #[.pointer (some ⟨g,0,none⟩)] w fun r w'=>r=.returned (nO (eC l s))∧Below w.heap.size w w':=by
 have hg:=h.lt
 obtain ⟨w1,hw1⟩:=nm_ (w.alloc (.cells #[.int .i64 0,.string ⟨#[]⟩,.int .i64 0,.int .i64 0] 60 (0,0)))
 have hb1:Below w.heap.size w w1:=hw1▸(J_ _ _).alloc le_ _
 have hbb:w1.heap[w.heap.size]? = some (.cells #[.int .i64 0,.string ⟨#[]⟩,.int .i64 0,.int .i64 0] 60 (0,0)):=hw1▸I_ _ _
 have h1:=h.step hb1
 obtain ⟨⟨q0,q1,q2,q3,q4,q5⟩,_⟩:=iQ h1.rd
 have HB:=hid hb1
 have HW1:=hid hw1
 have hg1:=h1.lt
 obtain ⟨⟨z0,z1,z2,z3⟩,f0,f1,f2,f3⟩:=aK hbb
 have hlz:=aC hbb
 by_cases hb:s.bad=0
 ·have HN:Hid (eC l s=aE l s.at_):=hid (M_ hb)
  obtain ⟨at_,bad,nodes⟩:=s
  obtain ⟨k,rfl⟩:=r_ (show 0≤at_ from h.inr.1)
  have hk:k<l.length:=by have:=h.inr.2.1;simp only at this;omega
  have hrow:=h1.row.2 [] (by simp)
  obtain ⟨ad,rfl⟩:=mR hrow (by omega)
  obtain ⟨x0,x1,x2,x3⟩:=lH hrow k hk
  have hlt:=N_ w1 _ x0
  have hm:=hrow.1
  have HX:=hid (tP hk)
  have hkz:(k:Int)<l.length:=by omega
  have hk0:(0:Int)≤k:=by omega
  have hlcz:(l.length:Int)≤c:=by have:=h.row.1;omega
  simp only at hb q1 q2
  subst hb
  clear h h1 hrow hb1 hbb hw1
  go_enter func60,ntmps60
  go_upto_region 1 with fail
  rw [HW1.out]
  go_wp2_with fail
  go_region_with (fail)
  all_goals
   go_wp2
   refine L_ (v:=nO l[k]) (by simp [results,results60,go_sem, *]) rfl ⟨by rw [HN.out];exact c_ (fun q=>Ending.returned (nO q)) HX.out.symm,?_⟩
   exact Below.drew (aH HB.out le_ _ _ _ _)
 ·have HN:Hid (eC l s=cB):=hid (K_ hb)
  have t1:=aW hb
  have t2:=kH t1
  clear h h1 hb1 hbb hw1 hb
  go_enter func60,ntmps60
  go_upto_region 1 with fail
  rw [HW1.out]
  go_wp2_with fail
  refine L_ (v:=nO cB) (by simp [results,results60,go_sem,cB, *]) rfl ⟨by rw [HN.out],?_⟩
  exact aH HB.out le_ _ _ _ _
end
theorem fU {l} (T:fZ l) (s):(eC l s).text.size≤8192:=by
 unfold eC
 split
 ·exact T.text s.at_
 ·exact h_ _
def AX (x:ByteArray) (u:bQ):Bool:=dK (eE u) x || (u.kind == 4 && dK u.text x)
theorem Pv {l x s} (hx:x.size≠0):(aF l x s).1=AX x (eC l s):=by
 unfold aF dN bZ eC AX
 by_cases hb:s.bad=0
 ·have hb1:(s.bad == 0)=true:=D_ hb
  rw [M_ hb,hb1,Bool.true_and,Bool.true_and]
  cases h:(dK (eE (aE l s.at_)) x || (aE l s.at_).kind == 4 && dK (aE l s.at_).text x)
  ·rfl
  ·rfl
 ·rw [K_ hb,aW hb,Bool.false_and,Bool.false_and]
  have h1:dK (eE cB) x=false:=by
   refine E_ (fun hc=>hx ?_)
   rw [bF] at hc
   rw [←hc]
   rfl
  rw [h1]
  rfl
section
variable {l : List bQ} {g c : Nat} {A : Option Addr} {s s' : RS} {w w' : World} {t t' : RT}
theorem vO.put (h:vO l g A c w s t) (i v):(w.setCell ⟨g,i,none⟩ v).heap[g]? = some (.cells ((#[.slice A l.length c,.int .i64 s.at_,.int .i64 s.bad,t.1,t.2.1,t.2.2]:Array Value).setIfInBounds i v) 67 (0,0)):=aZ h.rd i v
theorem jF (h:vO l g A c w s t) (e):Calls prog 38 #[.pointer (some ⟨g,0,none⟩),.int .i64 e] w (Ud g A l.length c (.tuple #[]) (bB e s) t w):=by
 obtain ⟨⟨q0,q1,q2,q3,q4,q5⟩,f1,f2,_⟩:=iQ h.rd
 have hg:=h.lt
 have H:=hid h
 by_cases hb:s.bad=0
 ·have hb1:(s.bad == 0)=true:=D_ hb
  have hr:bB e s={ s with bad:=e }:=M_ hb
  have HR:=hid hr
  clear h hr hb
  go_enter func38,ntmps38
  go_wp2_with fail
  go_end0
  exact ⟨rfl,by rw [HR.out];exact H.out.put 2 _,(Same.refl [g] w).setCell (.inl (by simp)) _⟩
 ·have hb1:=aW hb
  have hr:bB e s=s:=K_ hb
  have HR:=hid hr
  clear h hr hb
  go_enter func38,ntmps38
  go_wp2_with fail
  go_end0
  exact ⟨rfl,by rw [HR.out];exact H.out.rd,Same.refl [g] w⟩
theorem kT (T:fZ l) (h:vO l g A c w s t) (x) (hx:x.size≠0):Calls prog 35 #[.pointer (some ⟨g,0,none⟩),.string x] w fun r w'=>r=.returned (.bool (aF l x s).1)∧Below w.heap.size w w':=by
 rw [Pv hx]
 have HN:=hid (gE h)
 have hts:=fU T s
 obtain ⟨u,hu⟩:=nm_ (eC l s)
 rw [hu] at HN hts ⊢
 obtain ⟨k,tx,tn,ta⟩:=u
 have HK:=hid (fun W=>jV ⟨k,tx,tn,ta⟩ W hts)
 obtain ⟨kw,hkw⟩:=nm_ (eE ⟨k,tx,tn,ta⟩)
 rw [hkw] at HK
 obtain ⟨ANS,hA⟩:=nm_ (AX x ⟨k,tx,tn,ta⟩)
 rw [hA]
 unfold AX at hA
 rw [hkw] at hA
 simp only at hA
 have HA:=hid hA
 clear h hu hkw hA hts
 go_enter func35,ntmps35
 go_wp2_with fail
 refine HN.out.mono ?_
 rintro r w1 ⟨rfl,hb1⟩
 obtain ⟨w2,hw2,hb2,_⟩:=alo_ w1 (.cells #[.int .i64 k,.string tx,.int .i64 tn,.int .i64 ta] 60)
 have hx2:w2.heap[w1.heap.size]? = some (.cells #[.int .i64 k,.string tx,.int .i64 tn,.int .i64 ta] 60 (0,0)):=hw2▸I_ _ _
 obtain ⟨x0,x1,x2,x3⟩:=lQ hx2
 have hlx:=aC hx2
 have H2:=hj_ (hb1.trans (hb2.mono hb1.size)) hx2
 have HW2:=hid hw2
 clear hb1 hb2 hx2 hw2
 go_upto_region 2 with fail
 rw [HW2.out]
 go_wp2_with fail
 refine (HK.out w2).mono ?_
 rintro r w3 ⟨rfl,hb3⟩
 have H3:=hj_ (H2.out.1.trans (hb3.mono H2.out.1.size)) ((hb3.block _ hlx).trans H2.out.2)
 clear hb3 x0 x1 x2 x3 hlx
 obtain ⟨x0,x1,_,_⟩:=lQ H3.out.2
 have hlx:=aC H3.out.2
 by_cases h1:kw=x
 ·have HQ:Hid (ANS=true):=hid (by rw [←HA.out,show dK kw x=true from bF.2 h1];rfl)
  subst h1
  go_wp2_with fail
  go_ret
  exact ⟨by rw [HQ.out];rfl,H3.out.1⟩
 ·obtain ⟨t1,t3⟩:=jB h1
  have h2:dK kw x=false:=E_ (fun hc=>h1 (bF.1 hc))
  by_cases h4:k=4
  ·subst h4
   by_cases h5:tx=x
   ·have HQ:Hid (ANS=true):=hid (by rw [←HA.out,h2,show dK tx x=true from bF.2 h5];rfl)
    subst h5
    clear h1 h2
    go_wp2_with fail
    go_ret
    exact ⟨by rw [HQ.out];rfl,H3.out.1⟩
   ·have HQ:Hid (ANS=false):=hid (by rw [←HA.out,h2,show dK tx x=false from E_ (fun hc=>h5 (bF.1 hc))];rfl)
    obtain ⟨t5,t6⟩:=jB h5
    clear h1 h2 h5
    go_wp2_with fail
    go_ret
    exact ⟨by rw [HQ.out];rfl,H3.out.1⟩
  ·have t4:=aW h4
   have HQ:Hid (ANS=false):=hid (by rw [←HA.out,h2,t4];rfl)
   clear h1 h2 h4
   go_wp2_with fail
   go_ret
   exact ⟨by rw [HQ.out];rfl,H3.out.1⟩
theorem bO (T:fZ l) (h:vO l g A c w s t) (x) (hx:x.size≠0):Calls prog 33 #[.pointer (some ⟨g,0,none⟩),.string x] w (Ud g A l.length c (.tuple #[]) (bC l x s) t w):=by
 have HI:=hid (kT T h x hx)
 have H:=hid h
 have h1:=h.inr.1
 have h2:=h.inr.2.1
 have h3:=(h.row.2 [] (by simp)).1
 have hadd:IntKind.i64.wrap (s.at_+1)=s.at_+1:=IntWalk.i64_in _ (by omega)
 have hm:bC l x s=if (aF l x s).1=true then fQ s else bB 11 s:=by
  unfold bC aF
  by_cases hc:(dN l x s || bZ l x s)=true
  ·rw [M_ hc];rfl
  ·rw [K_ hc];rfl
 obtain ⟨b,hb⟩:=nm_ ((aF l x s).1)
 rw [hb] at HI hm
 obtain ⟨m,hmm⟩:=nm_ (bC l x s)
 rw [hmm] at hm ⊢
 have HM:=hid hm
 clear h hb hm hmm
 go_enter func33,ntmps33
 go_wp2_with fail
 refine HI.out.mono ?_
 rintro r w1 ⟨rfl,hb1⟩
 have H1:=hj_ (H.out.step hb1) hb1
 clear hb1
 cases b
 ·go_wp2_with fail
  refine (jF H1.out.1 11).mono ?_
  rintro r w2 ⟨rfl,h2,h3⟩
  have H2:=hid (⟨h2,(Same.of_below H1.out.2).then_ h3⟩:Cv w2 g A l.length c (bB 11 s) t∧Same [g] w w2)
  clear h2 h3
  go_wp2_with fail
  go_end0
  exact ⟨rfl,by rw [HM.out];exact H2.out.1,H2.out.2⟩
 ·obtain ⟨⟨q0,q1,q2,q3,q4,q5⟩,f1,f2,_⟩:=iQ H1.out.1.rd
  have hg:=H1.out.1.lt
  go_wp2_with fail
  go_end0
  exact ⟨rfl,by rw [HM.out];exact H1.out.1.put 1 _,(Same.of_below H1.out.2).setCell (.inl (by simp)) _⟩
end
end Go.Proofs.YtgcfjkfipkfijaaGreatDoor
